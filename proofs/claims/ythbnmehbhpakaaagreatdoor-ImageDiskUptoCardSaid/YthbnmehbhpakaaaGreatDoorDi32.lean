/-
  Files put in order by their paths (slices.SortFunc), walked.
-/
import Derived.Test.YthbnmehbhpakaaaGreatDoorDi17
import Derived.Test.YthbnmehbhpakaaaGreatDoorDi28
import Derived.Test.YthbnmehbhpakaaaGreatDoorDi15
set_option autoImplicit false
set_option relaxedAutoImplicit false
set_option linter.unusedVariables false
set_option linter.unusedSimpArgs false
namespace Go.Proofs.YthbnmehbhpakaaaGreatDoor
open Go.Rows Go.RowKit Go.Shelf Go.Sort

theorem cmpF_spec : ∀ a b : List UInt8, (Lib.compareBytes a b < 0 ↔ a < b) ∧ (Lib.compareBytes a b = 0 ↔ a = b)
  | [], [] => by simp [Lib.compareBytes]
  | [], _ :: _ => by simp [Lib.compareBytes]
  | _ :: _, [] => by simp [Lib.compareBytes]
  | x :: a, y :: b => by
    have ih := cmpF_spec a b
    rw [Lib.compareBytes, List.cons_lt_cons_iff, List.cons.injEq]
    by_cases h1 : x < y
    · have hne : x ≠ y := fun e => by subst e; exact UInt8.lt_irrefl x h1
      simp [h1, hne]
    · by_cases h2 : y < x
      · have hne : x ≠ y := fun e => by subst e; exact UInt8.lt_irrefl x h2
        simp [h1, h2, hne]
      · have he : x = y := UInt8.le_antisymm (UInt8.not_lt.1 h2) (UInt8.not_lt.1 h1)
        simp [h1, h2, he, ih.1, ih.2]

/-- files whose texts are none too long -/
abbrev Rf := { x : File // x.path.size ≤ maxLen ∧ x.data.size ≤ maxLen }
instance : Inhabited Rf := ⟨⟨⟨⟨#[]⟩, false, ⟨#[]⟩⟩, by decide, by decide⟩⟩
def encRf (x : Rf) : List Value := [.string x.1.path, .bool x.1.dir, .string x.1.data]
def cfRf (x y : Rf) : Int := Lib.compareBytes x.1.path.data.toList y.1.path.data.toList
theorem ltRf (x y : Rf) : ltOf cfRf x y = decide (x.1.path.data.toList < y.1.path.data.toList) := by
  unfold ltOf cfRf
  exact decide_eq_decide.2 (cmpF_spec _ _).1
theorem swoRf : SWO (ltOf cfRf) where
  irrefl x := by rw [ltRf]; simp
  trans x y z h1 h2 := by rw [ltRf] at *; simp at *; exact List.lt_trans h1 h2
  ntrans x y z h1 h2 := by
    rw [ltRf] at *
    simp only [decide_eq_false_iff_not] at *
    exact List.not_lt.2 (List.le_trans (List.not_lt.1 h2) (List.not_lt.1 h1))

theorem byPath_at (a b : ByteArray) (p q : Bool) (s t : ByteArray) (W : World) : Calls Tryz.prog 29 #[.agg #[.string a, .bool p, .string s], .agg #[.string b, .bool q, .string t]] W fun e w' => e = .returned (.int .i64 (Lib.compareBytes a.data.toList b.data.toList)) ∧ ∃ o o', w' = (W.alloc o).alloc o' := by
  go_enter Tryz.func29, Tryz.ntmps29
  go_wp2_with fail
  refine (Tryz.strings_Compare a b _).mono ?_
  rintro e w' ⟨rfl, rfl⟩
  go_wp2_with fail
  go_ret
  exact ⟨rfl, _, _, rfl⟩
theorem byPath_any (x y : Rf) (W : World) : Calls Tryz.prog 29 #[.agg #[.string x.1.path, .bool x.1.dir, .string x.1.data], .agg #[.string y.1.path, .bool y.1.dir, .string y.1.data]] W fun e w' => e = .returned (.int .i64 (cfRf x y)) ∧ ∃ q os', w' = grow (W.drewN q) os' :=
  (byPath_at _ _ _ _ _ _ W).mono (by
    rintro e w' ⟨h, o, o', rfl⟩
    exact ⟨h, 0, _, by rw [alloc_eq_grow, alloc_eq_grow, grow_grow]; rfl⟩)

/-- an own row's cells hold what is sorted -/
theorem holds_ownF {w : World} {base : Nat} {g cap : Nat} {l : List File} {S : Nat → Prop} (h : Own rFile w base 45 (.slice (some ⟨g, 0, none⟩) l.length cap) l S) : ∃ L : List Rf, L.length = l.length ∧ L.map (fun x => x.1) = l ∧ HoldsK encRf 3 w g 0 L.toArray := by
  have key : ∀ i (hi : i < l.length), ∃ x : Rf, x.1 = l[i] ∧ w.cell? ⟨g, i * 3, none⟩ = some (.string x.1.path) ∧ w.cell? ⟨g, i * 3 + 1, none⟩ = some (.bool x.1.dir) ∧ w.cell? ⟨g, i * 3 + 2, none⟩ = some (.string x.1.data) := fun i hi => by
    obtain ⟨b, o, cs, he, _, _, ⟨rfl, hz1, hz2⟩, hcell⟩ := h.slv.elem (i := i) (x := l[i]) (List.getElem?_eq_getElem hi)
    simp only [Option.some.injEq, Addr.mk.injEq] at he
    obtain ⟨rfl, rfl, _⟩ := he
    have c0 := hcell 0 _ rfl
    have c1 := hcell 1 _ rfl
    have c2 := hcell 2 _ rfl
    simp only [rFile, Nat.zero_add, Nat.add_zero] at c0 c1 c2
    exact ⟨⟨l[i], hz1, hz2⟩, rfl, c0, c1, c2⟩
  have hfr : ∀ o, w.frozen? ⟨g, o, none⟩ = false := fun o => by
    obtain ⟨_, xs, ⟨_, q⟩, _⟩ := h
    rcases q with ⟨q, _⟩ | ⟨g', cap', cur, q, _, hg, _⟩
    · cases q
    · simp only [Value.slice.injEq, Option.some.injEq, Addr.mk.injEq] at q
      obtain ⟨⟨rfl, _⟩, _⟩ := q
      simp [World.frozen?, hg]
  obtain ⟨f, hf⟩ : ∃ f : Nat → Rf, ∀ i (hi : i < l.length), (f i).1 = l[i] ∧ w.cell? ⟨g, i * 3, none⟩ = some (.string (f i).1.path) ∧ w.cell? ⟨g, i * 3 + 1, none⟩ = some (.bool (f i).1.dir) ∧ w.cell? ⟨g, i * 3 + 2, none⟩ = some (.string (f i).1.data) := by
    refine ⟨fun i => if hi : i < l.length then (key i hi).choose else default, fun i hi => ?_⟩
    simp only [dif_pos hi]
    exact (key i hi).choose_spec
  refine ⟨(List.range l.length).map f, by simp, ?_, ?_⟩
  · apply List.ext_getElem
    · simp
    · intro i h1 h2
      simp only [List.length_map, List.length_range] at h1
      simp only [List.getElem_map, List.getElem_range]
      exact (hf i h1).1
  · intro t ht
    rw [size_flatK, List.size_toArray, List.length_map, List.length_range] at ht
    have hi : t / 3 < l.length := by omega
    have hiL : t / 3 < ((List.range l.length).map f).toArray.size := by simpa using hi
    rw [get_flatK _ _ _ _ (by rw [List.size_toArray, List.length_map, List.length_range]; exact ht), getElem!_pos _ (t / 3) hiL]
    have hx : ((List.range l.length).map f).toArray[t / 3] = f (t / 3) := by simp
    rw [hx]
    obtain ⟨_, q0, q1, q2⟩ := hf (t / 3) hi
    refine ⟨?_, hfr _⟩
    have h2 : t % 3 = 0 ∨ t % 3 = 1 ∨ t % 3 = 2 := by omega
    rcases h2 with h2 | h2 | h2
    · rw [h2, show 0 + t = t / 3 * 3 from by omega]; exact q0
    · rw [h2, show 0 + t = t / 3 * 3 + 1 from by omega]; exact q1
    · rw [h2, show 0 + t = t / 3 * 3 + 2 from by omega]; exact q2
theorem slv_holdsF {w : World} {g cap : Nat} {L : List Rf} {S : Nat → Prop} (h : HoldsK encRf 3 w g 0 L.toArray) (hS : S g) (hlt : g < w.heap.size) (hc : L.length ≤ cap) (hm : cap ≤ maxLen) : SlV rFile w S (L.map fun x => x.1) (.slice (some ⟨g, 0, none⟩) L.length cap) := by
  refine ⟨some ⟨g, 0, none⟩, cap, by rw [List.length_map], by rw [List.length_map]; exact hc, hm, (fun e => by cases e), fun _ => ⟨g, 0, rfl, hS, hlt, fun i x hx => ?_⟩⟩
  rw [List.getElem?_map] at hx
  obtain ⟨y, hy, rfl⟩ := Option.map_eq_some_iff.1 hx
  obtain ⟨hi, hy⟩ := List.getElem?_eq_some_iff.1 hy
  refine ⟨[.string y.1.path, .bool y.1.dir, .string y.1.data], ⟨rfl, y.2.1, y.2.2⟩, fun j u hu => ?_⟩
  have hj : j < 3 := by have := (List.getElem?_eq_some_iff.1 hu).1; simpa using this
  have := (h.cell (i := i) (c := j) (by rw [List.size_toArray]; exact hi) hj).1
  simp only [rFile] at this ⊢
  rw [this, getElem!_pos L.toArray i (by rw [List.size_toArray]; exact hi)]
  have hl : L.toArray[i]'(by rw [List.size_toArray]; exact hi) = y := by rw [← hy]; rfl
  rw [hl, ← hu]
  have h2 : j = 0 ∨ j = 1 ∨ j = 2 := by omega
  rcases h2 with rfl | rfl | rfl <;> rfl

set_option maxRecDepth 100000 in
theorem sortFile_any (v : Value) (l : List File) (w : World) (base : Nat) (hown : Own rFile w base 45 v l (fun _ => False)) (hm : l.length ≤ 1000000) (hpos : 0 < l.length) (hn : (l.map (·.path)).Nodup) :
    Calls Tryz.prog 28 #[v, .func (.func 29) #[] #[]] w fun e w' => e = .returned (.tuple #[]) ∧ SlV rFile w' (fun b => base ≤ b) (sortS l) v ∧ (base ≤ w.heap.size → Below base w w') := by
  obtain ⟨A, cap, rfl, hcap, hmx⟩ := hown.slv.val
  obtain ⟨g, o, cs, he, _, hlt, _, _⟩ := hown.slv.elem (List.getElem?_eq_getElem hpos)
  have hform : ∃ cap', (Value.slice A l.length cap) = .slice (some ⟨g, 0, none⟩) l.length cap' ∧ base ≤ g := by
    obtain ⟨_, xs, ⟨_, q⟩, _⟩ := hown
    rcases q with ⟨_, q⟩ | ⟨g', cap', cur, q, hbg, _⟩
    · omega
    · simp only [Value.slice.injEq] at q
      rw [he] at q
      simp only [Option.some.injEq, Addr.mk.injEq] at q
      obtain ⟨⟨rfl, rfl, _⟩, _, rfl⟩ := q
      exact ⟨cap, by rw [he], hbg⟩
  obtain ⟨cap', hv, hbg⟩ := hform
  rw [hv] at hown ⊢
  have hcap2 : l.length ≤ cap' ∧ cap' ≤ maxLen := by
    simp only [Value.slice.injEq] at hv
    omega
  obtain ⟨L, hLl, hLn, hH⟩ := holds_ownF hown
  rw [← hLl] at hcap2 hm ⊢
  have hcon := AnyQ.slices_SortFunc Tryz.sortFile 3 Tryz.isAgg45 Tryz.sizeOf45 encRf (fun _ => rfl) (fun x u hu => by simp [encRf] at hu; rcases hu with rfl | rfl | rfl <;> rfl) cfRf swoRf 29 #[] g 0 cap' L.toArray w (enters_of Tryz.func29 (by kernel_rfl) rfl)
    (fun _ _ _ _ x y => byPath_any x y _) hH hlt (by rw [List.size_toArray]; omega)
  rw [List.size_toArray] at hcon
  refine hcon.mono ?_
  rintro e w' ⟨rfl, d', n, os, hp, hs, rfl⟩
  obtain ⟨hp1', _, hp3⟩ := hp
  have hp1 : d'.size = L.length := hp1'.trans (List.size_toArray ..)
  clear hp1'
  have hd : d'.toList.length = L.length := by rw [Array.length_toList, hp1]
  have hperm : d'.toList.Perm L := by
    have h1 : (d'.extract 0 L.length).toList = d'.toList := by rw [← hp1, Array.extract_size]
    have h2 : (L.toArray.extract 0 L.length).toList = L := by
      have := Array.extract_size (xs := L.toArray)
      rw [List.size_toArray] at this
      rw [this]
    rw [h1, h2] at hp3
    exact hp3
  have hH' : HoldsK encRf 3 (sortWorldK encRf 3 w g 0 n d' os) g 0 d'.toList.toArray := by
    rw [Array.toArray_toList]
    exact holdsK_grow encRf 3 _ os g 0 d' (by show g < (putRow id (Sort.ahead w n) g 0 _).heap.size; rw [size_putRow]; exact hlt) (holdsK_putRowK encRf 3 (Sort.ahead w n) g 0 L.toArray d' (holdsK_ahead encRf 3 w n g 0 _ hH) (by rw [hp1, List.size_toArray]))
  have hgr : w.grownBy (sortWorldK encRf 3 w g 0 n d' os) (some g) := sortWorldV_grown w g 0 n (flatK encRf 3 d') os
  have hfin : d'.toList.map (fun x => x.1) = sortS l := by
    refine sort_unique hn ?_ ?_
    · rw [← hLn]; exact hperm.map _
    · rw [List.pairwise_map]
      refine List.pairwise_iff_getElem.2 fun i j hi hj hij => ?_
      have := hs i j (Nat.zero_le _) hij (by omega)
      rw [ltRf, getElem!_pos d' j (by simpa using hj), getElem!_pos d' i (by simpa using hi)] at this
      unfold upF
      rw [lessB_lt]
      simpa using this
  refine ⟨rfl, ?_, fun hbw => (Below.refl _ _).grown hgr hbw (fun k hk => by cases hk; exact hbg)⟩
  have := slv_holdsF (S := fun b => base ≤ b) (cap := cap') hH' hbg (Nat.lt_of_lt_of_le hlt hgr.size) (by rw [hd]; exact hcap2.1) hcap2.2
  rw [hd, hfin] at this
  exact this
end Go.Proofs.YthbnmehbhpakaaaGreatDoor
