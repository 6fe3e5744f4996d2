/-
  Dependencies put in order by their names (slices.SortFunc), and asked whether they are (slices.IsSortedFunc): walked.
-/
import Derived.Test.YthbnmehbhpakaaaGreatDoorDi15
import Derived.Test.YthbnmehbhpakaaaGreatDoorDi06
import Derived.Test.YthbnmehbhpakaaaGreatDoorDi09
import Derived.Test.YthbnmehbhpakaaaGreatDoorDi20
set_option autoImplicit false
set_option relaxedAutoImplicit false
set_option linter.unusedVariables false
set_option linter.unusedSimpArgs false
namespace Go.Proofs.YthbnmehbhpakaaaGreatDoor
open Go.Rows Go.RowKit Go.Shelf Go.Sort

theorem cmpB_spec : ∀ a b : List UInt8, (Lib.compareBytes a b < 0 ↔ a < b) ∧ (Lib.compareBytes a b = 0 ↔ a = b)
  | [], [] => by simp [Lib.compareBytes]
  | [], _ :: _ => by simp [Lib.compareBytes]
  | _ :: _, [] => by simp [Lib.compareBytes]
  | x :: a, y :: b => by
    have ih := cmpB_spec a b
    rw [Lib.compareBytes, List.cons_lt_cons_iff, List.cons.injEq]
    by_cases h1 : x < y
    · have hne : x ≠ y := fun e => by subst e; exact UInt8.lt_irrefl x h1
      simp [h1, hne]
    · by_cases h2 : y < x
      · have hne : x ≠ y := fun e => by subst e; exact UInt8.lt_irrefl x h2
        simp [h1, h2, hne]
      · have he : x = y := UInt8.le_antisymm (UInt8.not_lt.1 h2) (UInt8.not_lt.1 h1)
        simp [h1, h2, he, ih.1, ih.2]

/-- dependencies as their cells show them -/
abbrev Rd := { x : ByteArray × Option Addr × Nat × Nat // x.1.size ≤ maxLen }
instance : Inhabited Rd := ⟨⟨(⟨#[]⟩, none, 0, 0), by decide⟩⟩
def encRd (x : Rd) : List Value := [.string x.1.1, .slice x.1.2.1 x.1.2.2.1 x.1.2.2.2]
def cfRd (x y : Rd) : Int := Lib.compareBytes x.1.1.data.toList y.1.1.data.toList
theorem ltRd (x y : Rd) : ltOf cfRd x y = decide (x.1.1.data.toList < y.1.1.data.toList) := by
  unfold ltOf cfRd
  exact decide_eq_decide.2 (cmpB_spec _ _).1
theorem swoRd : SWO (ltOf cfRd) where
  irrefl x := by rw [ltRd]; simp
  trans x y z h1 h2 := by rw [ltRd] at *; simp at *; exact List.lt_trans h1 h2
  ntrans x y z h1 h2 := by
    rw [ltRd] at *
    simp only [decide_eq_false_iff_not] at *
    exact List.not_lt.2 (List.le_trans (List.not_lt.1 h2) (List.not_lt.1 h1))

theorem may1_at (a b : ByteArray) (A B : Option Addr) (n m c d : Nat) (W : World) : Calls Tryz.prog 186 #[.agg #[.string a, .slice A n c], .agg #[.string b, .slice B m d]] W fun e w' => e = .returned (.int .i64 (Lib.compareBytes a.data.toList b.data.toList)) ∧ ∃ o o', w' = (W.alloc o).alloc o' := by
  go_enter Tryz.func186, Tryz.ntmps186
  go_wp2_with fail
  refine (Tryz.strings_Compare a b _).mono ?_
  rintro e w' ⟨rfl, rfl⟩
  go_wp2_with fail
  go_ret
  exact ⟨rfl, _, _, rfl⟩
theorem may1_any (x y : Rd) (W : World) : Calls Tryz.prog 186 #[.agg #[.string x.1.1, .slice x.1.2.1 x.1.2.2.1 x.1.2.2.2], .agg #[.string y.1.1, .slice y.1.2.1 y.1.2.2.1 y.1.2.2.2]] W fun e w' => e = .returned (.int .i64 (cfRd x y)) ∧ ∃ q os', w' = grow (W.drewN q) os' :=
  (may1_at _ _ _ _ _ _ _ _ W).mono (by
    rintro e w' ⟨h, o, o', rfl⟩
    exact ⟨h, 0, _, by rw [alloc_eq_grow, alloc_eq_grow, grow_grow]; rfl⟩)
theorem may1_below (a b : ByteArray) (A B : Option Addr) (n m c d : Nat) (W : World) : Calls Tryz.prog 186 #[.agg #[.string a, .slice A n c], .agg #[.string b, .slice B m d]] W fun e w' => e = .returned (.int .i64 (Lib.compareBytes a.data.toList b.data.toList)) ∧ Below W.heap.size W w' :=
  (may1_at a b A B n m c d W).mono fun e w' ⟨h, o, o', hw⟩ => ⟨h, by rw [hw]; exact bal (bal (Below.refl _ _) _) _⟩
theorem enters_may1 : Enters Tryz.prog 186 := enters_of Tryz.func186 (by kernel_rfl) rfl

/-- names alone, of dependencies' cells -/
def rNm : Rp ByteArray where
  size := 2
  holds := fun w S x cs => (∃ A n c, cs = [.string x, .slice A n c]) ∧ x.size ≤ maxLen
  len := fun ⟨⟨_, _, _, h⟩, _⟩ => by rw [h]; rfl
  one := fun ⟨⟨_, _, _, h⟩, _⟩ => by rw [h]; simp [Value.oneCell']
  mono := fun h _ => h

/-- an own row's cells hold what is sorted -/
theorem holds_ownD {w : World} {base : Nat} {g cap : Nat} {l : List Dep} {S : Nat → Prop} (h : Own rDep w base 158 (.slice (some ⟨g, 0, none⟩) l.length cap) l S) : ∃ L : List Rd, L.length = l.length ∧ L.map (fun x => x.1.1) = namesOf l ∧ HoldsK encRd 2 w g 0 L.toArray := by
  have key : ∀ i (hi : i < l.length), ∃ x : Rd, x.1.1 = l[i].name ∧ w.cell? ⟨g, i * 2, none⟩ = some (.string x.1.1) ∧ w.cell? ⟨g, i * 2 + 1, none⟩ = some (.slice x.1.2.1 x.1.2.2.1 x.1.2.2.2) := fun i hi => by
    obtain ⟨b, o, cs, he, _, _, ⟨s0, rfl, hz, hs⟩, hcell⟩ := h.slv.elem (i := i) (x := l[i]) (List.getElem?_eq_getElem hi)
    simp only [Option.some.injEq, Addr.mk.injEq] at he
    obtain ⟨rfl, rfl, _⟩ := he
    obtain ⟨A, c, rfl, _, _⟩ := hs.val
    have c0 := hcell 0 _ rfl
    have c1 := hcell 1 _ rfl
    simp only [rDep, Nat.zero_add, Nat.add_zero] at c0 c1
    exact ⟨⟨(l[i].name, A, _, c), hz⟩, rfl, c0, c1⟩
  have hfr : ∀ o, w.frozen? ⟨g, o, none⟩ = false := fun o => by
    obtain ⟨_, xs, ⟨_, q⟩, _⟩ := h
    rcases q with ⟨q, _⟩ | ⟨g', cap', cur, q, _, hg, _⟩
    · cases q
    · simp only [Value.slice.injEq, Option.some.injEq, Addr.mk.injEq] at q
      obtain ⟨⟨rfl, _⟩, _⟩ := q
      simp [World.frozen?, hg]
  obtain ⟨f, hf⟩ : ∃ f : Nat → Rd, ∀ i (hi : i < l.length), (f i).1.1 = l[i].name ∧ w.cell? ⟨g, i * 2, none⟩ = some (.string (f i).1.1) ∧ w.cell? ⟨g, i * 2 + 1, none⟩ = some (.slice (f i).1.2.1 (f i).1.2.2.1 (f i).1.2.2.2) := by
    refine ⟨fun i => if hi : i < l.length then (key i hi).choose else default, fun i hi => ?_⟩
    simp only [dif_pos hi]
    exact (key i hi).choose_spec
  refine ⟨(List.range l.length).map f, by simp, ?_, ?_⟩
  · apply List.ext_getElem
    · simp [namesOf]
    · intro i h1 h2
      simp only [List.length_map, List.length_range] at h1
      simp only [List.getElem_map, List.getElem_range, namesOf]
      exact (hf i h1).1
  · intro t ht
    rw [size_flatK, List.size_toArray, List.length_map, List.length_range] at ht
    have hi : t / 2 < l.length := by omega
    have hiL : t / 2 < ((List.range l.length).map f).toArray.size := by simpa using hi
    rw [get_flatK _ _ _ _ (by rw [List.size_toArray, List.length_map, List.length_range]; exact ht), getElem!_pos _ (t / 2) hiL]
    have hx : ((List.range l.length).map f).toArray[t / 2] = f (t / 2) := by simp
    rw [hx]
    obtain ⟨_, q0, q1⟩ := hf (t / 2) hi
    refine ⟨?_, hfr _⟩
    have h2 : t % 2 = 0 ∨ t % 2 = 1 := by omega
    rcases h2 with h2 | h2
    · rw [h2, show 0 + t = t / 2 * 2 from by omega]; exact q0
    · rw [h2, show 0 + t = t / 2 * 2 + 1 from by omega]; exact q1
theorem slv_holdsD {w : World} {g cap : Nat} {L : List Rd} {S : Nat → Prop} (h : HoldsK encRd 2 w g 0 L.toArray) (hS : S g) (hlt : g < w.heap.size) (hc : L.length ≤ cap) (hm : cap ≤ maxLen) : SlV rNm w S (L.map fun x => x.1.1) (.slice (some ⟨g, 0, none⟩) L.length cap) := by
  refine ⟨some ⟨g, 0, none⟩, cap, by rw [List.length_map], by rw [List.length_map]; exact hc, hm, (fun e => by cases e), fun _ => ⟨g, 0, rfl, hS, hlt, fun i x hx => ?_⟩⟩
  rw [List.getElem?_map] at hx
  obtain ⟨y, hy, rfl⟩ := Option.map_eq_some_iff.1 hx
  obtain ⟨hi, hy⟩ := List.getElem?_eq_some_iff.1 hy
  refine ⟨[.string y.1.1, .slice y.1.2.1 y.1.2.2.1 y.1.2.2.2], ⟨⟨_, _, _, rfl⟩, y.2⟩, fun j u hu => ?_⟩
  have hj : j < 2 := by have := (List.getElem?_eq_some_iff.1 hu).1; simpa using this
  have := (h.cell (i := i) (c := j) (by rw [List.size_toArray]; exact hi) hj).1
  simp only [rNm] at this ⊢
  rw [this, getElem!_pos L.toArray i (by rw [List.size_toArray]; exact hi)]
  have hl : L.toArray[i]'(by rw [List.size_toArray]; exact hi) = y := by rw [← hy]; rfl
  rw [hl, ← hu]
  have h2 : j = 0 ∨ j = 1 := by omega
  rcases h2 with rfl | rfl <;> rfl

set_option maxRecDepth 100000 in
theorem sortDep_any (v : Value) (l : List Dep) (w : World) (base : Nat) (S : Nat → Prop) (hown : Own rDep w base 158 v l S) (hm : l.length ≤ 1000000) :
    Calls Tryz.prog 189 #[v, .func (.func 186) #[] #[]] w fun e w' => e = .returned (.tuple #[]) ∧ ∃ l' : List ByteArray, l'.Perm (namesOf l) ∧ l'.Pairwise (fun x y => ¬ y.data.toList < x.data.toList) ∧ SlV rNm w' (fun b => base ≤ b) l' v ∧ (base ≤ w.heap.size → Below base w w') := by
  by_cases hne : l = []
  · subst hne
    obtain ⟨A, c, rfl, h1, h2⟩ := hown.slv.val
    refine (AnyF.slices_SortFunc_none { Tryz.sortDep with } A c (.func (.func 186) #[] #[]) w).mono ?_
    rintro e w' ⟨rfl, rfl⟩
    have hnone : A = none → c = 0 := fun e => by subst e; exact hown.slv.none_.2
    exact ⟨rfl, [], .refl _, List.Pairwise.nil, ⟨A, c, rfl, Nat.zero_le _, h2, hnone, fun h => absurd h (by simp)⟩, fun _ => Below.refl _ _⟩
  have hpos : 0 < l.length := List.length_pos_iff.2 hne
  obtain ⟨A, cap, rfl, hcap, hmx⟩ := hown.slv.val
  obtain ⟨g, o, cs, he, _, hlt, _, _⟩ := hown.slv.elem (List.getElem?_eq_getElem hpos)
  have hform : ∃ cap', (Value.slice A l.length cap) = .slice (some ⟨g, 0, none⟩) l.length cap' ∧ base ≤ g := by
    obtain ⟨_, xs, ⟨_, q⟩, _⟩ := hown
    rcases q with ⟨_, q⟩ | ⟨g', cap', cur, q, hbg, _⟩
    · omega
    · simp only [Value.slice.injEq] at q
      rw [he] at q
      simp only [Option.some.injEq, Addr.mk.injEq] at q
      obtain ⟨⟨rfl, rfl, _⟩, _, rfl⟩ := q
      exact ⟨cap, by rw [he], hbg⟩
  obtain ⟨cap', hv, hbg⟩ := hform
  rw [hv] at hown ⊢
  have hcap2 : l.length ≤ cap' ∧ cap' ≤ maxLen := by
    simp only [Value.slice.injEq] at hv
    omega
  obtain ⟨L, hLl, hLn, hH⟩ := holds_ownD hown
  rw [← hLl] at hcap2 hm ⊢
  rw [← hLn]
  have hcon := AnyQ.slices_SortFunc Tryz.sortDep 2 Tryz.isAgg158 Tryz.sizeOf158 encRd (fun _ => rfl) (fun x u hu => by simp [encRd] at hu; rcases hu with rfl | rfl <;> rfl) cfRd swoRd 186 #[] g 0 cap' L.toArray w (enters_of Tryz.func186 (by kernel_rfl) rfl)
    (fun _ _ _ _ x y => may1_any x y _) hH hlt (by rw [List.size_toArray]; omega)
  rw [List.size_toArray] at hcon
  refine hcon.mono ?_
  rintro e w' ⟨rfl, d', n, os, hp, hs, rfl⟩
  obtain ⟨hp1', _, hp3⟩ := hp
  have hp1 : d'.size = L.length := hp1'.trans (List.size_toArray ..)
  clear hp1'
  have hd : d'.toList.length = L.length := by rw [Array.length_toList, hp1]
  have hperm : d'.toList.Perm L := by
    have h1 : (d'.extract 0 L.length).toList = d'.toList := by rw [← hp1, Array.extract_size]
    have h2 : (L.toArray.extract 0 L.length).toList = L := by
      have := Array.extract_size (xs := L.toArray)
      rw [List.size_toArray] at this
      rw [this]
    rw [h1, h2] at hp3
    exact hp3
  have hH' : HoldsK encRd 2 (sortWorldK encRd 2 w g 0 n d' os) g 0 d'.toList.toArray := by
    rw [Array.toArray_toList]
    exact holdsK_grow encRd 2 _ os g 0 d' (by show g < (putRow id (Sort.ahead w n) g 0 _).heap.size; rw [size_putRow]; exact hlt) (holdsK_putRowK encRd 2 (Sort.ahead w n) g 0 L.toArray d' (holdsK_ahead encRd 2 w n g 0 _ hH) (by rw [hp1, List.size_toArray]))
  have hgr : w.grownBy (sortWorldK encRd 2 w g 0 n d' os) (some g) := sortWorldV_grown w g 0 n (flatK encRd 2 d') os
  refine ⟨rfl, d'.toList.map (fun x => x.1.1), hperm.map _, ?_, ?_, fun hbw => (Below.refl _ _).grown hgr hbw (fun k hk => by cases hk; exact hbg)⟩
  · rw [List.pairwise_map]
    refine List.pairwise_iff_getElem.2 fun i j hi hj hij => ?_
    have := hs i j (Nat.zero_le _) hij (by omega)
    rw [ltRd, getElem!_pos d' j (by simpa using hj), getElem!_pos d' i (by simpa using hi)] at this
    simpa using this
  · have := slv_holdsD (S := fun b => base ≤ b) (cap := cap') hH' hbg (Nat.lt_of_lt_of_le hlt hgr.size) (by rw [hd]; exact hcap2.1) hcap2.2
    rw [hd] at this
    exact this

/-! ### is a list in order? -/
def upB (l : List Dep) : Bool := decide (∀ i : Fin l.length, ∀ j : Fin l.length, j.1 = i.1 + 1 → ¬ l[j].name.data.toList < l[i].name.data.toList)
theorem upB_iff {l : List Dep} : upB l = true ↔ ∀ i (h : i + 1 < l.length), ¬ (l[i + 1]).name.data.toList < (l[i]'(by omega)).name.data.toList := by
  unfold upB
  rw [decide_eq_true_eq]
  constructor
  · intro h i hi; exact h ⟨i, by omega⟩ ⟨i + 1, hi⟩ rfl
  · rintro h ⟨i, hi⟩ ⟨j, hj⟩ e
    simp only at e
    subst e
    exact h i hj

set_option maxHeartbeats 2000000 in
set_option maxRecDepth 100000 in
theorem isSorted_any (A : Option Addr) (n c : Nat) (l : List Dep) (w : World) (S : Nat → Prop) (hl : SlV rDep w S l (.slice A n c)) :
    Calls Tryz.prog 187 #[.slice A n c, .func (.func 186) #[] #[]] w fun e w' => e = .returned (.bool (upB l)) ∧ Below w.heap.size w w' := by
  have hnx := hl.n_eq
  have hcx := hl.cap_le
  unfold maxLen at hcx
  have hn63 : n ≤ 9223372036854775807 := by omega
  have hl' := hl.more (S' := fun b => b < w.heap.size) fun b _ h => h
  have HL := Lib.hid hl'
  have Hn := Lib.hid hnx
  have Hyes : Hid ((∀ i (h : i + 1 < l.length), ¬ (l[i + 1]).name.data.toList < (l[i]'(by omega)).name.data.toList) → upB l = true) := fun h => upB_iff.2 h
  have Hno : Hid (∀ i (h : i + 1 < l.length), (l[i + 1]).name.data.toList < (l[i]'(by omega)).name.data.toList → upB l = false) := fun i h hlt => by
    rw [← Bool.not_eq_true]
    exact fun e => upB_iff.1 e i h hlt
  clear hl hl' hnx hcx
  generalize upB l = r at *
  have hent := fun args W => enters_may1 args W
  by_cases hn0 : n = 0
  · have hr := Hyes.out (fun i h => by have := Hn.out; omega)
    subst hr hn0
    clear Hyes Hno HL
    go_enter Tryz.func187, Tryz.ntmps187
    go_wp2_with fail
    go_loopw [5] (fun i wr => i = .int .i64 (-1) ∧ Hid (Below w.heap.size w wr)) (fun _ _ => 0)
    case atStart => exact ⟨rfl, Below.refl _ _⟩
    case round =>
      obtain ⟨rfl, HB⟩ := hrel
      go_wp2_with fail
      go_ret
      exact ⟨rfl, HB.out⟩
  · obtain ⟨n', rfl⟩ : ∃ n', n = n' + 1 := ⟨n - 1, by omega⟩
    have hw1 : IntKind.i64.wrap (((n' + 1 : Nat) : Int) - 1) = (n' : Int) := by rw [IntWalk.i64_in _ ⟨by omega, by omega⟩]; omega
    have hw2 : IntKind.i64.wrap ((n' : Int) + 1 - 1) = (n' : Int) := by rw [IntWalk.i64_in _ ⟨by omega, by omega⟩]; omega
    go_enter Tryz.func187, Tryz.ntmps187
    go_wp2_with fail
    clear hw1 hw2
    go_loopw [5] (fun i wr => ∃ k : Nat, k ≤ n' ∧ i = .int .i64 k ∧ Hid (∀ i (h : i + 1 < l.length), k ≤ i → ¬ (l[i + 1]).name.data.toList < (l[i]'(by omega)).name.data.toList) ∧ Hid (Below w.heap.size w wr)) (fun i _ => (intOf i).toNat)
    case atStart => exact ⟨n', Nat.le_refl _, rfl, fun i h hi => by have := Hn.out; omega, Below.refl _ _⟩
    case round =>
      obtain ⟨k, hk, rfl, Hs, HB⟩ := hrel
      by_cases hk0 : k = 0
      · subst hk0
        have hr := Hyes.out (fun i h => Hs.out i h (Nat.zero_le _))
        subst hr
        clear Hyes Hno Hs
        go_wp2_with fail
        go_ret
        exact ⟨rfl, HB.out⟩
      · obtain ⟨q, rfl⟩ : ∃ q, k = q + 1 := ⟨k - 1, by omega⟩
        have hw1 : IntKind.i64.wrap (((q + 1 : Nat) : Int) - 1) = (q : Int) := by rw [IntWalk.i64_in _ ⟨by omega, by omega⟩]; omega
        have hw2 : IntKind.i64.wrap ((q : Int) + 1 - 1) = (q : Int) := by rw [IntWalk.i64_in _ ⟨by omega, by omega⟩]; omega
        have hq1 : q + 1 < l.length := by have := Hn.out; omega
        have hlw := HL.out.below HB.out (fun b h => h)
        obtain ⟨b, o, rfl, _, hb⟩ := hlw.at (by omega)
        obtain ⟨b', o', cs', he', _, hb1, ⟨s0, rfl, _, hr0⟩, hcell⟩ := hlw.elem (List.getElem?_eq_getElem hq1)
        obtain ⟨b'', o'', cs'', he'', _, hb2, ⟨s1, rfl, _, hr1⟩, hcell'⟩ := hlw.elem (List.getElem?_eq_getElem (show q < l.length by omega))
        injection he' with he'
        injection he' with e1 e2 _
        subst e1 e2
        injection he'' with he''
        injection he'' with e1 e2 _
        subst e1 e2
        obtain ⟨pA, pc, rfl, _, _⟩ := hr0.val
        obtain ⟨qA, qc, rfl, _, _⟩ := hr1.val
        have c0 := hcell 0 _ rfl
        have c1 := hcell 1 _ rfl
        have d0 := hcell' 0 _ rfl
        have d1 := hcell' 1 _ rfl
        simp only [rDep, Nat.add_zero] at c0 c1 d0 d1
        have Hc := Lib.hid (qcall (w := wr) (fun W hW => may1_below l[q + 1].name l[q].name pA qA l[q + 1].range.length l[q].range.length pc qc W))
        have Hlt : Hid ((l[q + 1]).name.data.toList < (l[q]).name.data.toList → r = false) := fun h => Hno.out q hq1 h
        have Hge : Hid (¬ (l[q + 1]).name.data.toList < (l[q]).name.data.toList → ∀ i (h : i + 1 < l.length), q ≤ i → ¬ (l[i + 1]).name.data.toList < (l[i]'(by omega)).name.data.toList) := fun h i hi hqi => by
          by_cases e : q = i
          · subst e; exact h
          · exact Hs.out i hi (by omega)
        have hcmp := (cmpB_spec l[q + 1].name.data.toList l[q].name.data.toList).1
        have hq0 : (0 : Int) < ((q + 1 : Nat) : Int) := by omega
        have hqi : (0 : Int) ≤ (q : Int) := by omega
        have hqn : ((q + 1 : Nat) : Int) < ((n' + 1 : Nat) : Int) := by omega
        have hqn2 : (q : Int) < ((n' + 1 : Nat) : Int) := by omega
        generalize Lib.compareBytes l[q + 1].name.data.toList l[q].name.data.toList = cv at *
        generalize l[q + 1].name = nx at *
        generalize l[q].name = ny at *
        generalize l[q + 1].range.length = lx at *
        generalize l[q].range.length = ly at *
        by_cases hcv : cv < 0
        · have hr := Hlt.out (hcmp.1 hcv)
          subst hr
          clear hcmp Hlt Hge Hyes Hno Hs hr0 hr1 hcell hcell' hlw
          go_wp2_with fail
          have r_c0 := cell_regrown c0
          have r_c1 := cell_regrown c1
          have r_d0 := cell_regrown d0
          have r_d1 := cell_regrown d1
          go_wp2_with fail
          refine wp_region_qb (by kernel_rfl) (by kernel_rfl) ?_
          repeat (go_big_quiet_step (first | (with_reducible exact Hc.out _ _)))
          refine wpQuiet_nil ?_
          intro wq Bq
          have HBq := Lib.hid (bot HB.out Bq)
          clear Bq r_c0 r_c1 r_d0 r_d1
          go_wp2_with fail
          go_ret
          exact ⟨rfl, HBq.out⟩
        · have Hs' := Lib.hid (Hge.out (fun h => hcv (hcmp.2 h)))
          clear hcmp Hlt Hge Hs hr0 hr1 hcell hcell' hlw
          go_wp2_with fail
          have r_c0 := cell_regrown c0
          have r_c1 := cell_regrown c1
          have r_d0 := cell_regrown d0
          have r_d1 := cell_regrown d1
          go_wp2_with fail
          refine wp_region_qb (by kernel_rfl) (by kernel_rfl) ?_
          repeat (go_big_quiet_step (first | (with_reducible exact Hc.out _ _)))
          refine wpQuiet_nil ?_
          intro wq Bq
          have HBq := Lib.hid (bot HB.out Bq)
          clear Bq r_c0 r_c1 r_d0 r_d1
          go_wp2_with fail
          go_roundw
          case rel => exact ⟨q, by omega, rfl, Hs', HBq⟩
          case measure => simp [intOf]
end Go.Proofs.YthbnmehbhpakaaaGreatDoor
