/-
  Versions' texts in plain words: a text is read as the version whose text it is.
  vers.Parse: a version is read, walked.
-/
import Derived.Test.YtldjldkejjeamaaGreatDoorVers
import Derived.Test.YtldjldkejjeamaaGreatDoorShelfS
import Derived.Lib.Split
import Derived.Lib.SplitLaws
import Derived.Lib.PathFns
import Derived.Lib.IndexMore
import Derived.Test.YtldjldkejjeamaaGreatDoorSpanH
import Derived.Lib.UnsafeStr
import Derived.Lib.AtoiAllCases
set_option autoImplicit false
set_option relaxedAutoImplicit false
set_option linter.unusedVariables false
set_option linter.unusedSimpArgs false
namespace Go.Proofs.YtldjldkejjeamaaGreatDoor
open Go.Rows Go.RowKit Go.Shelf Go.Sort

def Ver.txt (v : Ver) : ByteArray := verText v.major v.minor v.patch
open Classical in
/-- the version whose text it is -/
noncomputable def vparse (s : ByteArray) : Option Ver := if h : ∃ v : Ver, v.ok = true ∧ s = v.txt then some h.choose else none
/-- the texts of the numbers of a version: read as they are written; no dot in them -/
theorem itoa_part : ∀ k : Fin 1000, Lib.atoiAll (itoaB (k.val : Int)).data.toList = .ok (k.val : Int) ∧ (itoaB (k.val : Int)).data.toList.all (fun c => decide (48 ≤ c.toNat) && decide (c.toNat ≤ 57)) = true := by decide +kernel
theorem itoa_read {n : Int} (h0 : 0 ≤ n) (h1 : n ≤ 999) : Lib.atoiAll (itoaB n).data.toList = .ok n ∧ (itoaB n).data.toList.all (fun c => decide (48 ≤ c.toNat) && decide (c.toNat ≤ 57)) = true := by
  have := itoa_part ⟨n.toNat, by omega⟩
  rwa [show ((n.toNat : Nat) : Int) = n by omega] at this
theorem itoa_inj {n m : Int} (h0 : 0 ≤ n) (h1 : n ≤ 999) (h : itoaB n = itoaB m) (g0 : 0 ≤ m) (g1 : m ≤ 999) : n = m := by
  have e1 := (itoa_read h0 h1).1
  have e2 := (itoa_read g0 g1).1
  rw [h, e2] at e1
  cases e1; rfl
theorem index_dot {x y : List UInt8} (hx : x.all (fun c => decide (48 ≤ c.toNat) && decide (c.toNat ≤ 57)) = true) : Lib.index (x ++ 46 :: y) [46] = (x.length : Int) := by
  refine Lib.index_first (by simp) (by simp [Lib.occAt]) fun j hj => ?_
  unfold Lib.occAt
  rw [List.drop_append_of_le_length (by omega), List.drop_eq_getElem_cons hj]
  have := List.all_eq_true.1 hx _ (List.getElem_mem hj)
  simp only [List.cons_append, List.isPrefixOf, Bool.and_true]
  rw [beq_eq_false_iff_ne]
  intro e
  rw [← e] at this
  simp at this
theorem index_nodot {x : List UInt8} (hx : x.all (fun c => decide (48 ≤ c.toNat) && decide (c.toNat ≤ 57)) = true) : Lib.index x [46] = -1 := by
  refine Lib.index_none fun j hj => ?_
  unfold Lib.occAt
  by_cases hjl : j < x.length
  · rw [List.drop_eq_getElem_cons hjl]
    have := List.all_eq_true.1 hx _ (List.getElem_mem hjl)
    simp only [List.isPrefixOf, Bool.and_true]
    rw [beq_eq_false_iff_ne]
    intro e
    rw [← e] at this
    simp at this
  · rw [List.drop_eq_nil_of_le (by omega)]; rfl
theorem bytes_ext {a b : ByteArray} (h : a.data.toList = b.data.toList) : a = b := by
  cases a; cases b; simp only [ByteArray.mk.injEq]; exact Array.toList_inj.1 h
theorem parts_text {v : Ver} (h : v.ok = true) : Lib.countB v.txt dotB = 2 ∧ Lib.splitB dotB 0 2 v.txt = [itoaB v.major, itoaB v.minor, itoaB v.patch] := by
  obtain ⟨a, b, c⟩ := v
  have hv : verB a b c = true := h
  obtain ⟨⟨a0, a1⟩, ⟨b0, b1⟩, c0, c1⟩ := verB_iff.1 hv
  have ht : Ver.txt ⟨a, b, c⟩ = itoaB a ++ dotB ++ itoaB b ++ dotB ++ itoaB c := by show verText a b c = _; unfold verText; rw [if_pos hv]
  have ha := (itoa_read a0 a1).2
  have hb := (itoa_read b0 b1).2
  have hc := (itoa_read c0 c1).2
  rw [ht]
  simp only
  generalize itoaB a = A at *
  generalize itoaB b = B at *
  generalize itoaB c = C at *
  have hd : dotB.data.toList = [46] := rfl
  have e1 : (A ++ dotB ++ B ++ dotB ++ C).data.toList = A.data.toList ++ 46 :: (B ++ dotB ++ C).data.toList := by simp [ByteArray.data_append, hd]
  have e2 : (B ++ dotB ++ C).data.toList = B.data.toList ++ 46 :: C.data.toList := by simp [ByteArray.data_append, hd]
  have s1 : dotB.size = 1 := rfl
  have i1 : Lib.indexB (A ++ dotB ++ B ++ dotB ++ C) dotB = (A.size : Int) := by
    show Lib.index _ dotB.data.toList = _
    rw [e1, hd, index_dot ha]; rfl
  have i2 : Lib.indexB (B ++ dotB ++ C) dotB = (B.size : Int) := by
    show Lib.index _ dotB.data.toList = _
    rw [e2, hd, index_dot hb]; rfl
  have i3 : Lib.indexB C dotB = -1 := by
    show Lib.index _ dotB.data.toList = _
    rw [hd, index_nodot hc]
  have z1 : A.data.toList.length = A.size := rfl
  have z2 : B.data.toList.length = B.size := rfl
  have x1 : (A ++ dotB ++ B ++ dotB ++ C).extract (A.size + dotB.size) (A ++ dotB ++ B ++ dotB ++ C).size = B ++ dotB ++ C := by
    rw [Lib.extract_from, e1, s1]
    apply bytes_ext
    rw [List.drop_append, List.drop_eq_nil_of_le (by omega), z1, show A.size + 1 - A.size = 1 by omega]; rfl
  have x2 : (B ++ dotB ++ C).extract (B.size + dotB.size) (B ++ dotB ++ C).size = C := by
    rw [Lib.extract_from, e2, s1]
    apply bytes_ext
    rw [List.drop_append, List.drop_eq_nil_of_le (by omega), z2, show B.size + 1 - B.size = 1 by omega]; rfl
  have y1 : (A ++ dotB ++ B ++ dotB ++ C).extract 0 (A.size + 0) = A := by
    rw [Lib.extract_upto, e1]
    apply bytes_ext
    rw [List.take_append_of_le_length (by omega), List.take_of_length_le (by omega)]
  have y2 : (B ++ dotB ++ C).extract 0 (B.size + 0) = B := by
    rw [Lib.extract_upto, e2]
    apply bytes_ext
    rw [List.take_append_of_le_length (by omega), List.take_of_length_le (by omega)]
  constructor
  · rw [Lib.countB_hit _ _ _ (by decide) i1, x1, Lib.countB_hit _ _ _ (by decide) i2, x2, Lib.countB_miss _ _ i3]
  · rw [Lib.splitB_hit _ _ _ _ _ i1, x1, y1, Lib.splitB_hit _ _ _ _ _ i2, x2, y2, Lib.splitB_zero]
theorem split_head {k : Nat} {s p q : ByteArray} {r : List ByteArray} (h : Lib.splitB dotB 0 k s = p :: q :: r) : ∃ k' s', s = p ++ dotB ++ s' ∧ Lib.splitB dotB 0 k' s' = q :: r := by
  cases k with
  | zero => rw [Lib.splitB_zero] at h; simp at h
  | succ k =>
    rcases Lib.indexB_cases s dotB with hi | ⟨i, hi, hir⟩
    · rw [Lib.splitB_miss _ _ _ _ hi] at h; simp at h
    · rw [Lib.splitB_hit _ _ _ _ _ hi] at h
      simp only [List.cons.injEq] at h
      obtain ⟨h1, h2⟩ := h
      refine ⟨k, _, ?_, h2⟩
      have hI : Lib.index s.data.toList dotB.data.toList = (i : Int) := hi
      rcases Lib.index_spec s.data.toList dotB.data.toList with ⟨g, _⟩ | ⟨j, g, _, ho, _⟩
      · omega
      · obtain rfl : j = i := by omega
        have hc := Lib.occAt_head (c := 46) (t := []) rfl ho
        rw [← h1, Lib.extract_upto, Lib.extract_from]
        apply bytes_ext
        have hjl := (List.getElem?_eq_some_iff.1 hc).1
        have hd : dotB.data.toList = [46] := rfl
        have s1 : dotB.size = 1 := rfl
        simp only [ByteArray.data_append, Array.toList_append, hd, s1, Nat.add_zero, List.append_assoc, List.singleton_append]
        rw [← (List.getElem?_eq_some_iff.1 hc).2]
        conv => lhs; rw [← List.take_append_drop j s.data.toList, List.drop_eq_getElem_cons hjl]
theorem split_three {k : Nat} {s p q r : ByteArray} (h : Lib.splitB dotB 0 k s = [p, q, r]) : s = p ++ dotB ++ q ++ dotB ++ r := by
  obtain ⟨k1, s1, e1, h1⟩ := split_head h
  obtain ⟨k2, s2, e2, h2⟩ := split_head h1
  have e3 : s2 = r := by
    cases k2 with
    | zero => rw [Lib.splitB_zero] at h2; simpa using h2
    | succ k2 =>
      rcases Lib.indexB_cases s2 dotB with hi | ⟨i, hi, hir⟩
      · rw [Lib.splitB_miss _ _ _ _ hi] at h2; simpa using h2
      · rw [Lib.splitB_hit _ _ _ _ _ hi] at h2
        have := congrArg List.length h2
        have hp : 0 < (Lib.splitB dotB 0 k2 (s2.extract (i + dotB.size) s2.size)).length := by cases k2 <;> unfold Lib.splitB <;> (try split) <;> simp
        simp only [List.length_cons, List.length_nil] at this
        omega
  rw [e1, e2, e3]
  apply bytes_ext
  simp [ByteArray.data_append]
/-- a text that is a version's -/
theorem vparse_some {s : ByteArray} {v : Ver} (h : v.ok = true) (hs : s = v.txt) : vparse s = some v := by
  have hex : ∃ v : Ver, v.ok = true ∧ s = v.txt := ⟨v, h, hs⟩
  unfold vparse
  rw [dif_pos hex]
  obtain ⟨g1, g2⟩ := hex.choose_spec
  have hp1 := (parts_text h).2
  have hp2 := (parts_text g1).2
  rw [← hs] at hp1
  rw [← g2, hp1] at hp2
  simp only [List.cons.injEq, and_true] at hp2
  generalize hex.choose = u at *
  obtain ⟨a, b, c⟩ := v
  obtain ⟨a', b', c'⟩ := u
  obtain ⟨⟨a0, a1⟩, ⟨b0, b1⟩, c0, c1⟩ := verB_iff.1 (show verB a b c = true from h)
  obtain ⟨⟨p0, p1⟩, ⟨q0, q1⟩, r0, r1⟩ := verB_iff.1 (show verB a' b' c' = true from g1)
  simp only at hp2
  rw [itoa_inj a0 a1 hp2.1 p0 p1, itoa_inj b0 b1 hp2.2.1 q0 q1, itoa_inj c0 c1 hp2.2.2 r0 r1]
theorem vparse_is {s : ByteArray} {v : Ver} (h : vparse s = some v) : v.ok = true ∧ s = v.txt := by
  unfold vparse at h
  split at h
  · rename_i hex
    cases h
    exact hex.choose_spec
  · cases h
theorem vparse_no {s : ByteArray} (h : ∀ v : Ver, v.ok = true → s ≠ v.txt) : vparse s = none := by
  unfold vparse
  rw [dif_neg]
  rintro ⟨v, h1, h2⟩
  exact h v h1 h2
end Go.Proofs.YtldjldkejjeamaaGreatDoor
set_option autoImplicit false
set_option relaxedAutoImplicit false
set_option linter.unusedVariables false
set_option linter.unusedSimpArgs false
namespace Go.Proofs.YtldjldkejjeamaaGreatDoor
open Go.Rows Go.RowKit Go.Shelf Go.Sort

/-- what the package variables hold that the reading of numbers and texts looks at -/
structure Vok (w : World) : Prop where
  tab : Tab w
  maxLen : ∃ m : Int, w.cell? ⟨0, 0, none⟩ = some (.int .i64 m)
  errSyntax : ∃ te pe, w.cell? ⟨1, 0, none⟩ = some (.iface te pe)
  errRange : ∃ te pe, w.cell? ⟨2, 0, none⟩ = some (.iface te pe)
theorem Vok.below {w W : World} (h : Vok w) (hb : Below w.heap.size w W) : Vok W := by
  obtain ⟨h1, ⟨m, h2⟩, ⟨te, pe, h3⟩, ⟨tr, pr, h4⟩⟩ := h
  exact ⟨tab_below h1 hb, ⟨m, below_cell hb h2 (cell_lt h2)⟩, ⟨te, pe, below_cell hb h3 (cell_lt h3)⟩, ⟨tr, pr, below_cell hb h4 (cell_lt h4)⟩⟩
theorem below_bytesWorld (w : World) (e : TypeId) (s : ByteArray) : Below w.heap.size w (Lib.bytesWorld w e s) := by
  unfold Lib.bytesWorld
  exact Lib.below_freeze ((Below.refl _ w).drew.alloc (Nat.le_refl _) _) (Nat.le_refl _) _

/-- a number is read, or there is an error -/
theorem atoi_any (s : ByteArray) (w : World) (hv : Vok w) (hs : s.size ≤ 1000000) :
    Calls Tryz.prog 85 #[.string s] w fun e w' => ((∃ x, e = .returned (.tuple #[.int .i64 x, .nilIface]) ∧ Lib.atoiAll s.data.toList = .ok x ∧ I64 x) ∨ (∃ x t p, e = .returned (.tuple #[.int .i64 x, .iface t p]) ∧ ∀ x, Lib.atoiAll s.data.toList ≠ .ok x)) ∧ Below w.heap.size w w' := by
  obtain ⟨_, _, ⟨te, pe, h3⟩, ⟨tr, pr, h4⟩⟩ := hv
  rcases h : Lib.atoiAll s.data.toList with x | _ | _
  · refine (Tryz.strconv_Atoi_ok s (by omega) x h w).mono ?_
    rintro e w' ⟨rfl, hw⟩
    refine ⟨.inl ⟨x, rfl, rfl, Lib.atoiAll_bounds h⟩, ?_⟩
    rcases hw with rfl | ⟨t, rfl⟩
    · exact Below.refl _ _
    · exact below_bytesWorld _ _ _
  · refine (Any.strconv_Atoi_syntax Tryz.laysC172 s (by omega) h _ w h3 (.inr ⟨te, pe, rfl⟩)).mono ?_
    rintro e w' ⟨N, rfl, _, _, hb⟩
    exact ⟨.inr ⟨_, _, _, rfl, fun x e => by cases e⟩, hb⟩
  · refine (Tryz.strconv_Atoi_range s (by omega) h _ w h4 (.inr ⟨tr, pr, rfl⟩)).mono ?_
    rintro e w' ⟨N, rfl, _, _, hb⟩
    exact ⟨.inr ⟨_, _, _, rfl, fun x e => by cases e⟩, hb⟩

theorem results_cell_slot {P : Program} {fn : Func} {p q : Tmp} {ty : TypeId} (h : fn.results = #[.cell p ty, .tmp q]) (tmps : Array Value) (w : World) (g : Nat) (t : TypeId) (cs : Array Value) (fr : Nat × Nat) (d : TypeDesc)
    (hp : tmps.getD p undef = .pointer (some ⟨g, 0, none⟩)) (hg : w.heap[g]? = some (.cells cs t fr))
    (hu : P.underlying ty = some d) (hd : (match d with | .struct _ | .array _ _ => true | _ => false) = true) (hi : (P.info? ty).map (·.size) = some cs.size) :
    (results fn tmps).run P w = .ok (.tuple #[.agg cs, tmps.getD q undef]) w := by
  have hp' : tmps[p]?.getD undef = .pointer (some ⟨g, 0, none⟩) := by simpa using hp
  simp [results, h, hp', asAddr, run_loadVar_row w g t ty cs fr d hg hu hd hi]

def verV (v : Ver) : Value := .agg #[.int .i64 v.major, .int .i64 v.minor, .int .i64 v.patch]
theorem row3 {W : World} {b : Nat} {x y z : Value} {t : TypeId} (h : W.heap[b]? = some (.cells #[x, y, z] t (0, 0))) : (W.cell? ⟨b, 0, none⟩ = some x ∧ W.cell? ⟨b, 1, none⟩ = some y ∧ W.cell? ⟨b, 2, none⟩ = some z) ∧ W.frozen? ⟨b, 0, none⟩ = false ∧ W.frozen? ⟨b, 1, none⟩ = false ∧ W.frozen? ⟨b, 2, none⟩ = false := by
  refine ⟨⟨cell_of_row _ _ 0 _ _ _ h, cell_of_row _ _ 1 _ _ _ h, cell_of_row _ _ 2 _ _ _ h⟩, ?_, ?_, ?_⟩ <;> simp [World.frozen?, h]
theorem ret_ver {P : Program} {fn : Func} {R : Ending → World → Prop} {ty : TypeId} {d : TypeDesc} {p q : Tmp} {a : Act} {W : World} {g : Nat} {x y z bv : Value} {t : TypeId} (hf : fn.results = #[.cell p ty, .tmp q]) (hd : a.defers = []) (h2 : a.tmps.getD p undef = .pointer (some ⟨g, 0, none⟩)) (h3 : a.tmps.getD q undef = bv)
    (hg : W.heap[g]? = some (.cells #[x, y, z] t (0, 0))) (hu : P.underlying ty = some d) (hdd : (match d with | .struct _ | .array _ _ => true | _ => false) = true) (hi : (P.info? ty).map (·.size) = some 3)
    (h : R (.returned (.tuple #[.agg #[x, y, z], bv])) W) : bodyPost P fn R Exit.ret a W :=
  bodyPost_ret (results_cell_slot hf a.tmps W g t #[x, y, z] (0, 0) d h2 hg hu hdd hi) hd (by rw [h3]; exact h)
/-- a part is a number as it is written -/
def PartIs (p : ByteArray) (x : Int) : Prop := Lib.atoiAll p.data.toList = .ok x ∧ itoaB x = p ∧ I64 x
theorem part_good {s : ByteArray} {L : List ByteArray} (hL : Lib.splitB dotB 0 2 s = L) {v : Ver} (hv : v.ok = true) (hs : s = v.txt) : L = [itoaB v.major, itoaB v.minor, itoaB v.patch] ∧ PartIs (itoaB v.major) v.major ∧ PartIs (itoaB v.minor) v.minor ∧ PartIs (itoaB v.patch) v.patch := by
  obtain ⟨⟨a0, a1⟩, ⟨b0, b1⟩, c0, c1⟩ := verB_iff.1 (show verB v.major v.minor v.patch = true from hv)
  refine ⟨by rw [← hL, hs]; exact (parts_text hv).2, ⟨(itoa_read a0 a1).1, rfl, ?_⟩, ⟨(itoa_read b0 b1).1, rfl, ?_⟩, (itoa_read c0 c1).1, rfl, ?_⟩ <;> (unfold I64; omega)
theorem part_fails {s : ByteArray} {L : List ByteArray} (hL : Lib.splitB dotB 0 2 s = L) {j : Nat} (hj : j < L.length) (h : ∀ x, ¬ PartIs L[j] x) : vparse s = none := by
  refine vparse_no fun v hv hs => ?_
  obtain ⟨h1, h2, h3, h4⟩ := part_good hL hv hs
  subst h1
  have : j = 0 ∨ j = 1 ∨ j = 2 := by simp at hj; omega
  rcases this with rfl | rfl | rfl
  · exact h _ h2
  · exact h _ h3
  · exact h _ h4
theorem parts_fine {s p q r : ByteArray} (hL : Lib.splitB dotB 0 2 s = [p, q, r]) {x y z : Int} (hp : PartIs p x) (hq : PartIs q y) (hr : PartIs r z) : vparse s = if verB x y z = true then some ⟨x, y, z⟩ else none := by
  by_cases h : verB x y z = true
  · rw [if_pos h]
    refine vparse_some h ?_
    rw [split_three hL, ← hp.2.1, ← hq.2.1, ← hr.2.1]
    show _ = verText x y z
    unfold verText
    rw [if_pos h]
  · rw [if_neg h]
    refine vparse_no fun v hv hs => h ?_
    obtain ⟨h1, h2, h3, h4⟩ := part_good hL hv hs
    simp only [List.cons.injEq, and_true] at h1
    obtain ⟨rfl, rfl, rfl⟩ := h1
    have e1 := hp.1.symm.trans h2.1
    have e2 := hq.1.symm.trans h3.1
    have e3 := hr.1.symm.trans h4.1
    cases e1; cases e2; cases e3
    exact hv
theorem three_set {X : Nat → Int} {k : Nat} (hk : k < 3) (x : Int) : (#[Value.int .i64 (X 0), .int .i64 (X 1), .int .i64 (X 2)] : Array Value).setIfInBounds k (.int .i64 x) = #[.int .i64 (if 0 = k then x else X 0), .int .i64 (if 1 = k then x else X 1), .int .i64 (if 2 = k then x else X 2)] := by
  have : k = 0 ∨ k = 1 ∨ k = 2 := by omega
  rcases this with rfl | rfl | rfl <;> rfl

theorem splitB_le (sep : ByteArray) : ∀ (k : Nat) (s x : ByteArray), x ∈ Lib.splitB sep 0 k s → x.size ≤ s.size := by
  intro k
  induction k with
  | zero => intro s x h; rw [Lib.splitB_zero] at h; simp at h; subst h; exact Nat.le_refl _
  | succ k ih =>
    intro s x h
    rcases Lib.indexB_cases s sep with hi | ⟨i, hi, hir⟩
    · rw [Lib.splitB_miss _ _ _ _ hi] at h; simp at h; subst h; exact Nat.le_refl _
    · rw [Lib.splitB_hit _ _ _ _ _ hi] at h
      rcases List.mem_cons.1 h with rfl | h
      · rw [ByteArray.size_extract]; omega
      · have := ih _ _ h; rw [ByteArray.size_extract] at this; omega
theorem elemsS : ∀ {l : List ByteArray} {w : World} {S : Nat → Prop}, (∀ x ∈ l, x.size ≤ maxLen) → Elems rStr w S l (l.map Value.string) := by
  intro l
  induction l with
  | nil => intro w S _; rfl
  | cons x l ih => intro w S h; exact ⟨[.string x], l.map Value.string, rfl, ⟨rfl, h x (by simp)⟩, ih fun y hy => h y (by simp [hy])⟩

set_option maxHeartbeats 4000000 in
set_option maxRecDepth 100000 in
theorem versParse_any (s : ByteArray) (w : World) (hv : Vok w) (hs : s.size ≤ 1000000) :
    Calls Tryz.prog 48 #[.string s] w fun e w' => e = .returned (.tuple #[verV ((vparse s).getD ⟨0, 0, 0⟩), .bool (vparse s).isSome]) ∧ Below w.heap.size w w' := by
  have Hv := Lib.hid hv
  obtain ⟨m, hm⟩ := hv.maxLen
  have Hm := Lib.hid hm
  clear hv hm
  go_enter Tryz.func48, Tryz.ntmps48
  go_wp2_with fail
  obtain ⟨w1, hw1⟩ : ∃ w1, w1 = w.alloc (.cells #[.int .i64 0, .int .i64 0, .int .i64 0] 23) := ⟨_, rfl⟩
  have HB1 : Hid (Below w.heap.size w w1) := by unfold Hid; rw [hw1]; exact bal (Below.refl _ _) _
  have hr1 : w1.heap[w.heap.size]? = some (.cells #[.int .i64 0, .int .i64 0, .int .i64 0] 23 (0, 0)) := by rw [hw1]; exact heap_alloc_new w _
  rw [← hw1]
  clear hw1
  have hz1 : w.heap.size < w1.heap.size := (Array.getElem?_eq_some_iff.1 hr1).1
  have Hsp := Lib.hid (Tryz.strings_Split s dotB m w1 (by omega) (below_cell HB1.out Hm.out (cell_lt Hm.out)) (by decide))
  have hdot : dotB = ⟨#[46]⟩ := rfl
  have HsA : Hid (∀ L, Lib.countB s dotB = 2 → Lib.splitB dotB 0 (Lib.countB s dotB) s = L → Lib.splitB dotB 0 2 s = L ∧ L.length = 3) := fun L h1 h2 => by
    rw [← h2, h1]
    exact ⟨rfl, by rw [Lib.splitB_all dotB (by decide) 0 2 s h1]⟩
  have HsN : Hid (Lib.countB s dotB ≠ 2 → vparse s = none) := fun hc => vparse_no fun v hv hs => hc (by rw [hs]; exact (parts_text hv).1)
  rw [hdot] at Hsp
  obtain ⟨L, hL⟩ : ∃ L, Lib.splitB dotB 0 (Lib.countB s dotB) s = L := ⟨_, rfl⟩
  have HsA2 := Lib.hid (fun h => HsA.out L h hL)
  have HLs : Hid (∀ x ∈ L, x.size ≤ s.size) := fun x hx => splitB_le _ _ _ _ (by rw [hL]; exact hx)
  rw [hdot] at hL HsA2 HsN
  rw [hL] at Hsp
  clear hL HsA hdot
  have Hcn : Hid (Lib.countB s ⟨#[46]⟩ ≤ 1000000) := Nat.le_trans (Lib.countB_le ⟨#[46]⟩ (by decide) s.size s (Nat.le_refl _)) hs
  generalize Lib.countB s ⟨#[46]⟩ = cn at *
  refine Hsp.out.mono ?_
  rintro e w2 ⟨rfl, hw2⟩
  have HB12 : Hid (Below w1.heap.size w1 w2) := by unfold Hid; rw [hw2]; exact bal (Below.refl _ _) _
  have HB2 := Lib.hid (bot HB1.out HB12.out)
  have hr2 := (HB12.out.block _ hz1).trans hr1
  have hn2 : w2.heap[w1.heap.size]? = some (.cells (L.map Value.string).toArray 9 (0, 0)) := by rw [hw2]; exact heap_alloc_new _ _
  have HL2 : Hid (L.length = cn + 1 → SlV rStr w2 (fun b => b < w2.heap.size) L (.slice (some ⟨w1.heap.size, 0, none⟩) (cn + 1) (cn + 1))) := fun hl =>
    SlV.of_block hn2 (by rw [List.toList_toArray]; exact elemsS fun x hx => by have := HLs.out x hx; unfold maxLen; omega) (by have := (Array.getElem?_eq_some_iff.1 hn2).1; exact this) hl.symm (by rw [hl]; exact Nat.le_refl _) (by have := Hcn.out; unfold maxLen; omega)
  clear hw2 Hsp hn2 hr1
  by_cases hc : cn = 2
  case neg =>
    have hne : ((cn : Int) + 1 != 3) = true := by simp; omega
    have hne' : (((cn + 1 : Nat) : Int) != 3) = true := by simp; omega
    have Hno := Lib.hid (HsN.out hc)
    obtain ⟨⟨c0, c1, c2⟩, f0, f1, f2⟩ := row3 hr2
    clear hc HsA2 HsN HL2
    go_wp2_with fail
    refine ret_ver rfl rfl rfl rfl (heap_set3 hr2 _ _ _) Tryz.underlying23 rfl (by kernel_rfl) ⟨?_, ?_⟩
    · rw [Hno.out]; rfl
    · exact ((HB2.out.setCell (Nat.le_refl _) _).setCell (Nat.le_refl _) _).setCell (Nat.le_refl _) _
  obtain ⟨hL2, hL3⟩ := HsA2.out hc
  have HV2 := Lib.hid (HL2.out (by omega))
  subst hc
  clear HL2 HsA2 HsN
  obtain ⟨p, q, r, rfl⟩ : ∃ p q r, L = [p, q, r] := by
    match L, hL3 with
    | [p, q, r], _ => exact ⟨p, q, r, rfl⟩
  have HpF : Hid (∀ (j : Nat) (hj : j < [p, q, r].length), (∀ x, ¬ PartIs ([p, q, r][j]) x) → vparse s = none) := fun j hj h => part_fails hL2 hj h
  have HpG : Hid (∀ x y z, PartIs p x → PartIs q y → PartIs r z → vparse s = if verB x y z = true then some ⟨x, y, z⟩ else none) := fun x y z h1 h2 h3 => parts_fine hL2 h1 h2 h3
  have Hsz : Hid (∀ (j : Nat) (hj : j < [p, q, r].length), ([p, q, r][j]).size ≤ 1000000) := fun j hj => Nat.le_trans (HLs.out _ (List.getElem_mem hj)) hs
  clear hL2 hL3 HLs Hcn
  obtain ⟨b1, hb1⟩ : ∃ b1, b1 = w1.heap.size := ⟨_, rfl⟩
  rw [← hb1] at HV2
  rw [← hb1]
  clear hb1
  go_wp2_with fail
  obtain ⟨w3, hw3⟩ : ∃ w3, w3 = w2.alloc (.cells #[.int .i64 0, .int .i64 0, .int .i64 0] 92) := ⟨_, rfl⟩
  have HB3 : Hid (Below w2.heap.size w2 w3) := by unfold Hid; rw [hw3]; exact bal (Below.refl _ _) _
  have hr3 : w3.heap[w2.heap.size]? = some (.cells #[.int .i64 0, .int .i64 0, .int .i64 0] 92 (0, 0)) := by rw [hw3]; exact heap_alloc_new _ _
  have HV3 := Lib.hid (HV2.out.belowSize HB3.out)
  have hz2 : w.heap.size < w2.heap.size := (Array.getElem?_eq_some_iff.1 hr2).1
  have hr23 := (HB3.out.block _ hz2).trans hr2
  have HBw3 := Lib.hid (bot HB2.out HB3.out)
  have Hz23 : Hid (w2.heap.size ≤ w3.heap.size) := HB3.out.size
  rw [← hw3]
  clear hw3 HB3 HV2 hr2
  generalize w2.heap.size = B5 at *
  clear HB2 HB12
  go_loopw [19] (fun i wr => ∃ (k : Nat) (X : Nat → Int), k ≤ 3 ∧ i = .int .i64 k ∧ Hid (∀ (j : Nat) (hj : j < [p, q, r].length), j < k → PartIs ([p, q, r][j]) (X j)) ∧ Hid (wr.heap[B5]? = some (.cells #[.int .i64 (X 0), .int .i64 (X 1), .int .i64 (X 2)] 92 (0, 0))) ∧ Hid (Below B5 w3 wr ∧ w3.heap.size ≤ wr.heap.size)) (fun i _ => 3 - (intOf i).toNat)
  case atStart => exact ⟨0, fun _ => 0, Nat.zero_le _, rfl, fun j hj h => absurd h (Nat.not_lt_zero _), hr3, Below.refl _ _, Nat.le_refl _⟩
  case round =>
    obtain ⟨k, X, hk, rfl, HX, HR, HB⟩ := hrel
    have hrr := (HB.out.1.block _ hz2).trans hr23
    have hBw : Below w.heap.size w wr := HBw3.out.trans (HB.out.1.mono (by have := HBw3.out.size; omega))
    by_cases hlt : k < 3
    case neg =>
      obtain rfl : k = 3 := by omega
      have hlt' : ¬ ((3 : Nat) : Int) < 3 := by omega
      obtain ⟨⟨c0, c1, c2⟩, f0, f1, f2⟩ := row3 HR.out
      obtain ⟨⟨d0, d1, d2⟩, g0, g1, g2⟩ := row3 hrr
      have hfin := HpG.out (X 0) (X 1) (X 2) (HX.out 0 (by simp) (by omega)) (HX.out 1 (by simp) (by omega)) (HX.out 2 (by simp) (by omega))
      have Hfin := Lib.hid hfin
      have HBw := Lib.hid hBw
      clear hfin hBw
      generalize X 0 = x at *
      generalize X 1 = y at *
      generalize X 2 = z at *
      go_wp2_with fail
      refine (versMay_any x y z _).mono ?_
      rintro e w5 ⟨rfl, hb5⟩
      have HB5 := Lib.hid (bot HBw.out (bnew hb5))
      have hzr : w.heap.size < wr.heap.size := (Array.getElem?_eq_some_iff.1 hrr).1
      have hr5 : w5.heap[w.heap.size]? = some (.cells #[.int .i64 0, .int .i64 0, .int .i64 0] 23 (0, 0)) := ((bnew hb5).block _ hzr).trans hrr
      have hn5 : w5.heap[wr.heap.size]? = some (.cells #[.int .i64 x, .int .i64 y, .int .i64 z] 23 (0, 0)) := (hb5.block _ (by simp)).trans (heap_alloc_new _ _)
      obtain ⟨⟨d0, d1, d2⟩, g0, g1, g2⟩ := row3 hr5
      obtain ⟨⟨e0, e1, e2⟩, _⟩ := row3 hn5
      have Hr5 := Lib.hid hr5
      clear hb5 c0 c1 c2 f0 f1 f2 hr5 hn5 HR HX HB hrr hzr
      by_cases hvb : verB x y z = true
      · rw [if_pos hvb] at Hfin
        rw [hvb]
        go_wp2_with fail
        refine ret_ver rfl rfl rfl rfl (heap_set3 Hr5.out _ _ _) Tryz.underlying23 rfl (by kernel_rfl) ⟨?_, ?_⟩
        · rw [Hfin.out]; rfl
        · exact ((HB5.out.setCell (Nat.le_refl _) _).setCell (Nat.le_refl _) _).setCell (Nat.le_refl _) _
      · rw [if_neg hvb] at Hfin
        rw [Bool.not_eq_true] at hvb
        rw [hvb]
        go_wp2_with fail
        refine ret_ver rfl rfl rfl rfl (heap_set3 Hr5.out _ _ _) Tryz.underlying23 rfl (by kernel_rfl) ⟨?_, ?_⟩
        · rw [Hfin.out]; rfl
        · exact ((HB5.out.setCell (Nat.le_refl _) _).setCell (Nat.le_refl _) _).setCell (Nat.le_refl _) _
    have hkI : (k : Int) < 3 := by omega
    have hk0 : (0 : Int) ≤ (k : Int) := by omega
    have hkx : k < [p, q, r].length := by simpa using hlt
    obtain ⟨pb, po, cs, he, hpS, _, ⟨rfl, _⟩, hcell⟩ := HV3.out.elem (List.getElem?_eq_getElem hkx)
    simp only [Option.some.injEq, Addr.mk.injEq] at he
    obtain ⟨rfl, rfl, _⟩ := he
    have y0 := below_cell HB.out.1 (hcell 0 _ rfl) hpS
    simp only [rStr, Nat.add_zero, Nat.mul_one, Nat.zero_add] at y0
    have Hat := Lib.hid (atoi_any ([p, q, r][k]) wr (Hv.out.below hBw) (Hsz.out k hkx))
    have Hfl := Lib.hid (HpF.out k hkx)
    have HBw := Lib.hid hBw
    have Hrr := Lib.hid hrr
    have hzr : w.heap.size < wr.heap.size := (Array.getElem?_eq_some_iff.1 hrr).1
    have hlo := HX.out
    generalize hpt : [p, q, r][k] = pt at *
    have Hpt := Lib.hid hpt
    clear hcell hrr hBw hpt hlo
    go_wp2_with fail
    refine Hat.out.mono ?_
    rintro e w5 ⟨hres, hb5⟩
    have HB5 := Lib.hid (bot HBw.out hb5)
    have hr5 := (hb5.block _ hzr).trans Hrr.out
    have HR5 : Hid (w5.heap[B5]? = some (.cells #[.int .i64 (X 0), .int .i64 (X 1), .int .i64 (X 2)] 92 (0, 0))) := (hb5.block _ (Array.getElem?_eq_some_iff.1 HR.out).1).trans HR.out
    have HBB : Hid (Below B5 w3 w5 ∧ w3.heap.size ≤ w5.heap.size) := ⟨HB.out.1.trans (hb5.mono (by have := (Array.getElem?_eq_some_iff.1 HR.out).1; omega)), by have := hb5.size; have := HB.out.2; omega⟩
    clear hb5 y0 Hat HR HB
    rcases hres with ⟨x, rfl, hx1, hx2⟩ | ⟨x, et, ep, rfl, hno⟩
    · have Hx := Lib.hid (show Lib.atoiAll pt.data.toList = .ok x ∧ I64 x from ⟨hx1, hx2⟩)
      have Hit := Lib.hid (fun W hW => itoa_any x hx2 W hW)
      clear hx1 hx2
      obtain ⟨ix, hix⟩ : ∃ ix, ix = itoaB x := ⟨_, rfl⟩
      rw [← hix] at Hit
      have Hix := Lib.hid hix
      clear hix
      go_wp2_with fail
      refine (Hit.out _ (Hv.out.below HB5.out).tab).mono ?_
      rintro e w6 ⟨rfl, hb6⟩
      have hz5 : w.heap.size < w5.heap.size := (Array.getElem?_eq_some_iff.1 hr5).1
      have hzB : B5 < w5.heap.size := (Array.getElem?_eq_some_iff.1 HR5.out).1
      have HB6 := Lib.hid (bot HB5.out hb6)
      have hr6 := (hb6.block _ hz5).trans hr5
      have hR6 := (hb6.block _ hzB).trans HR5.out
      have HBB6 : Hid (Below B5 w3 w6 ∧ w3.heap.size ≤ w6.heap.size) := ⟨HBB.out.1.trans (hb6.mono (by omega)), by have := hb6.size; have := HBB.out.2; omega⟩
      clear hb6 hr5 HR5 HBB HB5 Hit
      by_cases hixp : ix = pt
      · have hbe : (ix.toList != pt.toList) = false := by rw [hixp]; simp
        have hbe2 : (ix.toList == pt.toList) = true := by rw [hixp]; simp
        have HP : Hid (PartIs pt x) := ⟨Hx.out.1, Hix.out.symm.trans hixp, Hx.out.2⟩
        have hfz : w6.frozen? ⟨B5, k, none⟩ = false := by simp [World.frozen?, hR6]
        have hck : w6.cell? ⟨B5, k, none⟩ = some (.int .i64 (X k)) := by
          obtain ⟨⟨c0, c1, c2⟩, _⟩ := row3 hR6
          have : k = 0 ∨ k = 1 ∨ k = 2 := by omega
          rcases this with rfl | rfl | rfl
          · exact c0
          · exact c1
          · exact c2
        have hR7 : (w6.setCell ⟨B5, k, none⟩ (.int .i64 x)).heap[B5]? = some (.cells #[.int .i64 (if 0 = k then x else X 0), .int .i64 (if 1 = k then x else X 1), .int .i64 (if 2 = k then x else X 2)] 92 (0, 0)) := by
          have := heap_set1 (o := k) hR6 (.int .i64 x)
          rw [three_set hlt x] at this
          exact this
        have HR7 := Lib.hid hR7
        have HR6 := Lib.hid hR6
        clear hixp hR6 hR7 Hix Hx
        go_wp2_with fail
        go_roundw
        case rel => exact ⟨k + 1, fun j => if j = k then x else X j, by omega, by simp, fun j hj hjk => by
          by_cases e : j = k
          · subst e
            have := Hpt.out
            simp only [if_true]
            rw [this]
            exact HP.out
          · simp only [if_neg e]
            exact HX.out j hj (by omega), HR7.out, HBB6.out.1.setCell (Nat.le_refl _) _, by
              have h1 := HBB6.out.2
              have h2 : (w6.setCell ⟨B5, k, none⟩ (.int .i64 x)).heap.size = w6.heap.size := by simp [World.setCell]
              rw [h2]; exact h1⟩
        case measure => simp only [intOf]; omega
      · have hne : ix.toList ≠ pt.toList := fun e => hixp (bytes_ext (by rw [Go.ByteArray.toList_eq, Go.ByteArray.toList_eq] at e; exact e))
        have hbe : (ix.toList != pt.toList) = true := by simpa using hne
        have hbe2 : (ix.toList == pt.toList) = false := by simpa using hne
        clear hne
        have Hno : Hid (vparse s = none) := Hfl.out fun y hy => by
          have e := Hx.out.1.symm.trans hy.1
          cases e
          exact hixp (Hix.out.trans hy.2.1)
        obtain ⟨⟨d0, d1, d2⟩, g0, g1, g2⟩ := row3 hr6
        have Hr6 := Lib.hid hr6
        clear hr6 hixp Hix Hx hR6
        go_wp2_with fail
        refine ret_ver rfl rfl rfl rfl (heap_set3 Hr6.out _ _ _) Tryz.underlying23 rfl (by kernel_rfl) ⟨?_, ?_⟩
        · rw [Hno.out]; rfl
        · exact ((HB6.out.setCell (Nat.le_refl _) _).setCell (Nat.le_refl _) _).setCell (Nat.le_refl _) _
    · have Hno : Hid (vparse s = none) := Hfl.out fun x hx => hno x hx.1
      obtain ⟨⟨d0, d1, d2⟩, g0, g1, g2⟩ := row3 hr5
      have Hr5 := Lib.hid hr5
      clear hno hr5
      go_wp2_with fail
      refine ret_ver rfl rfl rfl rfl (heap_set3 Hr5.out _ _ _) Tryz.underlying23 rfl (by kernel_rfl) ⟨?_, ?_⟩
      · rw [Hno.out]; rfl
      · exact ((HB5.out.setCell (Nat.le_refl _) _).setCell (Nat.le_refl _) _).setCell (Nat.le_refl _) _
end Go.Proofs.YtldjldkejjeamaaGreatDoor
