/-
  The program's placer: the directories put in order by their paths' texts (slices.SortFunc): walked.
-/
import Derived.Test.YtminjjdnmpaaoaaGreatDoorPp22
import Derived.Test.YtminjjdnmpaaoaaGreatDoorPp39
import Derived.Test.YtminjjdnmpaaoaaGreatDoorPp03
set_option autoImplicit false
set_option relaxedAutoImplicit false
set_option linter.unusedVariables false
set_option linter.unusedSimpArgs false
namespace Go.Proofs.YtminjjdnmpaaoaaGreatDoor
open Go.Rows Go.RowKit Go.Shelf Go.Sort

theorem cmpT_spec : ∀ a b : List UInt8, (Lib.compareBytes a b < 0 ↔ a < b) ∧ (Lib.compareBytes a b = 0 ↔ a = b)
  | [], [] => by simp [Lib.compareBytes]
  | [], _ :: _ => by simp [Lib.compareBytes]
  | _ :: _, [] => by simp [Lib.compareBytes]
  | x :: a, y :: b => by
    have ih := cmpT_spec a b
    rw [Lib.compareBytes, List.cons_lt_cons_iff, List.cons.injEq]
    by_cases h1 : x < y
    · have hne : x ≠ y := fun e => by subst e; exact UInt8.lt_irrefl x h1
      simp [h1, hne]
    · by_cases h2 : y < x
      · have hne : x ≠ y := fun e => by subst e; exact UInt8.lt_irrefl x h2
        simp [h1, h2, hne]
      · have he : x = y := UInt8.le_antisymm (UInt8.not_lt.1 h2) (UInt8.not_lt.1 h1)
        simp [h1, h2, he, ih.1, ih.2]

/-- directories as their cells show them in a world -/
abbrev RdT (w : World) (S : Nat → Prop) := { p : Dir × List Value // rDir.holds w S p.1 p.2 ∧ p.1.path.length * 32 ≤ 140737488355328 }
def zeroCells : List Value := [.slice none 0 0, .string ⟨#[]⟩, .int .i64 0, .int .i64 0, .int .i64 0, .slice none 0 0, .slice none 0 0, .slice none 0 0, .int .i64 0]
theorem zero_holds (w : World) (S : Nat → Prop) : rDir.holds w S dirZ0 zeroCells :=
  have h0 : I64 0 := ⟨by decide, by decide⟩
  ⟨_, _, _, _, rfl, SlV.nil_ _ _ _, by decide, h0, h0, h0, SlV.nil_ _ _ _, SlV.nil_ _ _ _, SlV.nil_ _ _ _, h0⟩
instance {w : World} {S : Nat → Prop} : Inhabited (RdT w S) := ⟨⟨(dirZ0, zeroCells), zero_holds w S, by decide⟩⟩
section
variable {w : World} {S : Nat → Prop}
def encRt (x : RdT w S) : List Value := x.1.2
def cfRt (x y : RdT w S) : Int := Lib.compareBytes (textB x.1.1.path).data.toList (textB y.1.1.path).data.toList
theorem ltRt (x y : RdT w S) : ltOf cfRt x y = decide ((textB x.1.1.path).data.toList < (textB y.1.1.path).data.toList) := by
  unfold ltOf cfRt
  exact decide_eq_decide.2 (cmpT_spec _ _).1
theorem swoRt : SWO (ltOf (cfRt (w := w) (S := S))) where
  irrefl x := by rw [ltRt]; simp
  trans x y z h1 h2 := by rw [ltRt] at *; simp at *; exact List.lt_trans h1 h2
  ntrans x y z h1 h2 := by
    rw [ltRt] at *
    simp only [decide_eq_false_iff_not] at *
    exact List.not_lt.2 (List.le_trans (List.not_lt.1 h2) (List.not_lt.1 h1))
end
theorem cls_of {W W' : World} (h : Below W.heap.size W W') (hd : W.drawn ≤ W'.drawn) : ∃ q os', W' = grow (W.drewN q) os' := by
  obtain ⟨p, hp⟩ := regrown_of_below h
  have e : W'.drawn = p.d := by rw [hp]; rfl
  refine ⟨p.d - W.drawn, p.os, ?_⟩
  rw [hp]
  congr 1
  unfold redrawn World.drewN
  congr 1
  omega

theorem sortWorldV_farP (w : World) (g o m : Nat) (dk : Array Value) (os : Array Obj) {k : Nat} (hk : k < w.heap.size) (hne : k ≠ g) : (sortWorld id w g o m dk os).heap[k]? = w.heap[k]? := by
  unfold sortWorld
  have hs : (putRow id (Sort.ahead w m) g o dk).heap.size = w.heap.size := size_putRow id (Sort.ahead w m) g o dk
  rw [heap_grow_old _ _ (by rw [hs]; exact hk)]
  unfold putRow mapBlock
  simp only [Array.getElem?_modify]
  rw [if_neg (fun e => hne e.symm)]
  rfl
theorem sortWorldV_grownP (w : World) (g o m : Nat) (dk : Array Value) (os : Array Obj) : w.grownBy (sortWorld id w g o m dk os) (some g) := by
  refine ⟨rfl, rfl, rfl, ?_, fun k hk hne => sortWorldV_farP w g o m dk os hk (fun e => hne (by rw [e]))⟩
  unfold sortWorld
  rw [size_grow, size_putRow]
  show w.heap.size ≤ w.heap.size + os.size
  omega

theorem two_newP (w : World) (oa ob : Obj) : ((w.alloc oa).alloc ob).heap[w.heap.size]? = some oa ∧ ((w.alloc oa).alloc ob).heap[w.heap.size + 1]? = some ob := by
  have hsz : w.heap.size + 1 = (w.alloc oa).heap.size := by simp
  refine ⟨(Below.heap_alloc (w.alloc oa) ob w.heap.size (by rw [← hsz]; exact Nat.lt_succ_self _)).trans (heap_new w oa), ?_⟩
  rw [hsz]; exact heap_new (w.alloc oa) ob

set_option maxHeartbeats 1600000 in
set_option maxRecDepth 100000 in
theorem run1_at (x y : Dir) (cs ds : List Value) (W : World) (S : Nat → Prop) (hx : rDir.holds W S x cs) (hy : rDir.holds W S y ds) (hxl : x.path.length * 32 ≤ 140737488355328) (hyl : y.path.length * 32 ≤ 140737488355328) :
    Calls Tryz.prog 25 #[.agg cs.toArray, .agg ds.toArray] W fun e w' => e = .returned (.int .i64 (Lib.compareBytes (textB x.path).data.toList (textB y.path).data.toList)) ∧ Below W.heap.size W w' := by
  obtain ⟨s0, s1, s2, s3, rfl, hp, _, _, _, _, _, _, _, _⟩ := hx
  obtain ⟨u0, u1, u2, u3, rfl, hq, _, _, _, _, _, _, _, _⟩ := hy
  obtain ⟨pA, pc, rfl, _, _⟩ := hp.val
  obtain ⟨qA, qc, rfl, _, _⟩ := hq.val
  have HT1 : Hid (∀ V, Below W.heap.size W V → Calls Tryz.prog 19 #[.slice pA x.path.length pc] V fun e w' => e = .returned (.string (textB x.path)) ∧ Below V.heap.size V w') := fun V hV => treeText_any _ _ _ x.path V (fun b => b < V.heap.size) (fun b h => h) hxl ((hp.belowSize hV).more fun b h h' => h')
  have HT2 : Hid (∀ V, Below W.heap.size W V → Calls Tryz.prog 19 #[.slice qA y.path.length qc] V fun e w' => e = .returned (.string (textB y.path)) ∧ Below V.heap.size V w') := fun V hV => treeText_any _ _ _ y.path V (fun b => b < V.heap.size) (fun b h => h) hyl ((hq.belowSize hV).more fun b h h' => h')
  have HCm : Hid (∀ V, Calls Tryz.prog 26 #[.string (textB x.path), .string (textB y.path)] V fun e w' => e = .returned (.int .i64 (Lib.compareBytes (textB x.path).data.toList (textB y.path).data.toList)) ∧ Below V.heap.size V w') := fun V => (Tryz.strings_Compare _ _ V).mono fun e w' ⟨h1, h2⟩ => ⟨h1, by rw [h2]; exact Below.refl _ _⟩
  clear hp hq hxl hyl
  generalize Lib.compareBytes (textB x.path).data.toList (textB y.path).data.toList = R at *
  generalize textB x.path = tx at *
  generalize textB y.path = ty at *
  generalize x.path.length = lx at *
  generalize y.path.length = ly at *
  go_enter Tryz.func25, Tryz.ntmps25
  go_upto_region 1 with (fail)
  obtain ⟨w1, hw1⟩ : ∃ w1, w1 = (W.alloc (.cells #[.slice pA lx pc, .string x.pack.name, .int .i64 x.pack.ver.major, .int .i64 x.pack.ver.minor, .int .i64 x.pack.ver.patch, s1, s2, s3, .int .i64 x.node] 54)).alloc (.cells #[.slice qA ly qc, .string y.pack.name, .int .i64 y.pack.ver.major, .int .i64 y.pack.ver.minor, .int .i64 y.pack.ver.patch, u1, u2, u3, .int .i64 y.node] 54) := ⟨_, rfl⟩
  have hB1 : Below W.heap.size W w1 := by rw [hw1]; exact bal (bal (Below.refl _ _) _) _
  have hq1 := (two_newP W (.cells #[.slice pA lx pc, .string x.pack.name, .int .i64 x.pack.ver.major, .int .i64 x.pack.ver.minor, .int .i64 x.pack.ver.patch, s1, s2, s3, .int .i64 x.node] 54) (.cells #[.slice qA ly qc, .string y.pack.name, .int .i64 y.pack.ver.major, .int .i64 y.pack.ver.minor, .int .i64 y.pack.ver.patch, u1, u2, u3, .int .i64 y.node] 54))
  rw [← hw1] at hq1 ⊢
  have c0 := cell_of_row _ _ 0 _ _ _ hq1.1
  have d0 := cell_of_row _ _ 0 _ _ _ hq1.2
  have HB1 := Lib.hid hB1
  have HQ1 := Lib.hid (qcall (w := w1) (fun V hV => HT1.out V (bot HB1.out hV)))
  have HQ2 := Lib.hid (qcall (w := w1) (fun V hV => HT2.out V (bot HB1.out hV)))
  have HQ3 := Lib.hid (qcall (w := w1) (fun V _ => HCm.out V))
  clear hw1 hB1 hq1
  have r_c0 := cell_regrown c0
  have r_d0 := cell_regrown d0
  go_wp2_with fail
  refine wp_region_qb (by kernel_rfl) (by kernel_rfl) ?_
  repeat (go_big_quiet_step (first | (with_reducible exact HQ1.out _ _) | (with_reducible exact HQ2.out _ _) | (with_reducible exact HQ3.out _ _)))
  refine wpQuiet_nil ?_
  intro w2 B2
  go_wp2_with fail
  go_ret
  exact ⟨rfl, bot HB1.out B2⟩

/-- an own row's cells hold what is sorted -/
theorem holds_ownT {w : World} {base : Nat} {g cap : Nat} {l : List Dir} {S : Nat → Prop} (h : Own rDir w base 54 (.slice (some ⟨g, 0, none⟩) l.length cap) l S) (hlen : ∀ d ∈ l, d.path.length * 32 ≤ 140737488355328) : ∃ L : List (RdT w S), L.length = l.length ∧ L.map (fun x => x.1.1) = l ∧ HoldsK encRt 9 w g 0 L.toArray := by
  obtain ⟨h0, xs, h1, h2⟩ := h
  have key : ∀ i (hi : i < l.length), ∃ x : RdT w S, x.1.1 = l[i] ∧ ∀ (j : Nat) (u : Value), x.1.2[j]? = some u → w.cell? ⟨g, i * 9 + j, none⟩ = some u := fun i hi => by
    obtain ⟨cs, hc, hcell⟩ := h2.get i l[i] (List.getElem?_eq_getElem hi)
    refine ⟨⟨(l[i], cs), hc, hlen _ (List.getElem_mem hi)⟩, rfl, fun j u hu => ?_⟩
    have h3 := h1.cells (g := g) rfl _ u (hcell j u hu)
    rw [add_lit', Nat.zero_add] at h3
    exact h3
  have hfr : ∀ o, w.frozen? ⟨g, o, none⟩ = false := fun o => by
    rcases h1.2 with ⟨q, _⟩ | ⟨g', cap', cur, q, _, hg, _⟩
    · cases q
    · simp only [Value.slice.injEq, Option.some.injEq, Addr.mk.injEq] at q
      obtain ⟨⟨rfl, _⟩, _⟩ := q
      simp [World.frozen?, hg]
  obtain ⟨f, hf⟩ : ∃ f : Nat → RdT w S, ∀ i (hi : i < l.length), (f i).1.1 = l[i] ∧ ∀ (j : Nat) (u : Value), (f i).1.2[j]? = some u → w.cell? ⟨g, i * 9 + j, none⟩ = some u := by
    refine ⟨fun i => if hi : i < l.length then (key i hi).choose else default, fun i hi => ?_⟩
    simp only [dif_pos hi]
    exact (key i hi).choose_spec
  refine ⟨(List.range l.length).map f, by simp, ?_, ?_⟩
  · apply List.ext_getElem
    · simp
    · intro i h1 h2
      simp only [List.length_map, List.length_range] at h1
      simp only [List.getElem_map, List.getElem_range]
      exact (hf i h1).1
  · intro t ht
    rw [size_flatK, List.size_toArray, List.length_map, List.length_range] at ht
    have hi : t / 9 < l.length := by omega
    have hiL : t / 9 < ((List.range l.length).map f).toArray.size := by simpa using hi
    rw [get_flatK _ _ _ _ (by rw [List.size_toArray, List.length_map, List.length_range]; exact ht), getElem!_pos _ (t / 9) hiL]
    have hx : ((List.range l.length).map f).toArray[t / 9] = f (t / 9) := by simp
    rw [hx]
    obtain ⟨_, hq⟩ := hf (t / 9) hi
    have hl9 : (f (t / 9)).1.2.length = 9 := rDir.len (f (t / 9)).2.1
    have hm : t % 9 < (f (t / 9)).1.2.length := by rw [hl9]; omega
    refine ⟨?_, hfr _⟩
    have := hq (t % 9) _ (List.getElem?_eq_getElem hm)
    rw [show 0 + t = t / 9 * 9 + t % 9 from by omega, this]
    show some _ = some ((f (t / 9)).1.2)[t % 9]!
    rw [getElem!_pos (f (t / 9)).1.2 (t % 9) hm]
theorem slv_holdsT {w W : World} {g cap : Nat} {S T : Nat → Prop} {L : List (RdT w S)} (h : HoldsK encRt 9 W g 0 L.toArray) (hT : T g) (hlt : g < W.heap.size) (hc : L.length ≤ cap) (hm : cap ≤ maxLen) (hS : ∀ b, S b → b < w.heap.size → T b ∧ W.heap[b]? = w.heap[b]?) : SlV rDir W T (L.map fun x => x.1.1) (.slice (some ⟨g, 0, none⟩) L.length cap) := by
  refine ⟨some ⟨g, 0, none⟩, cap, by rw [List.length_map], by rw [List.length_map]; exact hc, hm, (fun e => by cases e), fun _ => ⟨g, 0, rfl, hT, hlt, fun i x hx => ?_⟩⟩
  rw [List.getElem?_map] at hx
  obtain ⟨y, hy, rfl⟩ := Option.map_eq_some_iff.1 hx
  obtain ⟨hi, hy⟩ := List.getElem?_eq_some_iff.1 hy
  refine ⟨y.1.2, rDir.mono y.2.1 hS, fun j u hu => ?_⟩
  have hl9 : y.1.2.length = 9 := rDir.len y.2.1
  have hj : j < 9 := by have := (List.getElem?_eq_some_iff.1 hu).1; omega
  have := (h.cell (i := i) (c := j) (by rw [List.size_toArray]; exact hi) hj).1
  simp only [rDir] at this ⊢
  rw [this, getElem!_pos L.toArray i (by rw [List.size_toArray]; exact hi)]
  have hl : L.toArray[i]'(by rw [List.size_toArray]; exact hi) = y := by rw [← hy]; rfl
  rw [hl]
  show some (y.1.2)[j]! = some u
  rw [getElem!_pos y.1.2 j (by omega), ← hu, List.getElem?_eq_getElem]

theorem enters_run1 : Enters Tryz.prog 25 := enters_of Tryz.func25 (by kernel_rfl) rfl

set_option maxRecDepth 100000 in
theorem sortDir_any (v : Value) (l : List Dir) (w : World) (base : Nat) (S : Nat → Prop) (hown : Own rDir w base 54 v l S) (hm : l.length ≤ 1000000) (hpos : 0 < l.length) (hlen : ∀ d ∈ l, d.path.length * 32 ≤ 140737488355328) (hn : (l.map fun d => textB d.path).Nodup) :
    Calls Tryz.prog 24 #[v, .func (.func 25) #[] #[]] w fun e w' => e = .returned (.tuple #[]) ∧ SlV rDir w' (fun b => S b ∨ v.ownBlock = some b) (sortD l) v ∧ w.grownBy w' v.ownBlock := by
  obtain ⟨A, cap, rfl, hcap, hmx⟩ := hown.slv.val
  obtain ⟨g, o, cs, he, _, hlt, _, _⟩ := hown.slv.elem (List.getElem?_eq_getElem hpos)
  have hform : ∃ cap', (Value.slice A l.length cap) = .slice (some ⟨g, 0, none⟩) l.length cap' := by
    obtain ⟨_, xs, ⟨_, q⟩, _⟩ := hown
    rcases q with ⟨_, q⟩ | ⟨g', cap', cur, q, hbg, _⟩
    · omega
    · simp only [Value.slice.injEq] at q
      rw [he] at q
      simp only [Option.some.injEq, Addr.mk.injEq] at q
      obtain ⟨⟨rfl, rfl, _⟩, _, rfl⟩ := q
      exact ⟨cap, by rw [he]⟩
  obtain ⟨cap', hv⟩ := hform
  rw [hv] at hown ⊢
  have hcap2 : l.length ≤ cap' ∧ cap' ≤ maxLen := by
    simp only [Value.slice.injEq] at hv
    omega
  have hSg : ∀ b, S b → b ≠ g := fun b hb e => (hown.1 b hb).2 (by rw [e]; rfl)
  obtain ⟨L, hLl, hLn, hH⟩ := holds_ownT hown hlen
  rw [← hLl] at hcap2 hm ⊢
  have hcmp : CmpLays Tryz.prog 25 #[] (encRt (w := w) (S := S)) 9 cfRt g 0 L.toArray.size w := fun m os dk hs x y => by
    have hgr : w.grownBy (sortWorldK encRt 9 w g 0 m dk os) (some g) := sortWorldV_grownP w g 0 m (flatK encRt 9 dk) os
    have hx : rDir.holds (sortWorldK encRt 9 w g 0 m dk os) S x.1.1 x.1.2 := Rp.keep x.2.1 fun b hb hl => hgr.block b hl (fun e => hSg b hb (Option.some.inj e))
    have hy : rDir.holds (sortWorldK encRt 9 w g 0 m dk os) S y.1.1 y.1.2 := Rp.keep y.2.1 fun b hb hl => hgr.block b hl (fun e => hSg b hb (Option.some.inj e))
    refine (Calls.drawn (run1_at x.1.1 y.1.1 x.1.2 y.1.2 _ S hx hy x.2.2 y.2.2)).mono ?_
    rintro e w' ⟨h1, h2, h3⟩
    exact ⟨h1, cls_of h2 h3⟩
  have hcon := AnyQ.slices_SortFunc Tryz.sortDir 9 Tryz.isAgg54 Tryz.sizeOf54 (encRt (w := w) (S := S)) (fun x => rDir.len x.2.1) (fun x u hu => rDir.one x.2.1 u hu) cfRt swoRt 25 #[] g 0 cap' L.toArray w enters_run1
    hcmp hH hlt (by rw [List.size_toArray]; omega)
  rw [List.size_toArray] at hcon
  refine hcon.mono ?_
  rintro e w' ⟨rfl, d', n, os, hp, hs, rfl⟩
  obtain ⟨hp1', _, hp3⟩ := hp
  have hp1 : d'.size = L.length := hp1'.trans (List.size_toArray ..)
  clear hp1'
  have hd : d'.toList.length = L.length := by rw [Array.length_toList, hp1]
  have hperm : d'.toList.Perm L := by
    have h1 : (d'.extract 0 L.length).toList = d'.toList := by rw [← hp1, Array.extract_size]
    have h2 : (L.toArray.extract 0 L.length).toList = L := by
      have := Array.extract_size (xs := L.toArray)
      rw [List.size_toArray] at this
      rw [this]
    rw [h1, h2] at hp3
    exact hp3
  have hH' : HoldsK encRt 9 (sortWorldK encRt 9 w g 0 n d' os) g 0 d'.toList.toArray := by
    rw [Array.toArray_toList]
    exact holdsK_grow encRt 9 _ os g 0 d' (by show g < (putRow id (Sort.ahead w n) g 0 _).heap.size; rw [size_putRow]; exact hlt) (holdsK_putRowK encRt 9 (Sort.ahead w n) g 0 L.toArray d' (holdsK_ahead encRt 9 w n g 0 _ hH) (by rw [hp1, List.size_toArray]))
  have hgr : w.grownBy (sortWorldK encRt 9 w g 0 n d' os) (some g) := sortWorldV_grownP w g 0 n (flatK encRt 9 d') os
  have hfin : d'.toList.map (fun x => x.1.1) = sortD l := by
    refine sortD_unique hn ?_ ?_
    · rw [← hLn]; exact hperm.map _
    · rw [List.pairwise_map]
      refine List.pairwise_iff_getElem.2 fun i j hi hj hij => ?_
      have := hs i j (Nat.zero_le _) hij (by omega)
      rw [ltRt, getElem!_pos d' j (by simpa using hj), getElem!_pos d' i (by simpa using hi)] at this
      unfold upD
      rw [lessB_lt]
      simpa using this
  refine ⟨rfl, ?_, hgr⟩
  have := slv_holdsT (T := fun b => S b ∨ (Value.slice (some ⟨g, 0, none⟩) L.length cap').ownBlock = some b) (cap := cap') hH' (.inr rfl) (Nat.lt_of_lt_of_le hlt hgr.size) (by rw [hd]; exact hcap2.1) hcap2.2 (fun b hb hl => ⟨.inl hb, hgr.block b hl (fun e => hSg b hb (Option.some.inj e))⟩)
  rw [hd, hfin] at this
  exact this
end Go.Proofs.YtminjjdnmpaaoaaGreatDoor
