/-
  manifest.may: three lists that may be a package's: walked.
  halyardref04.isWord, split, line, Lines: a text as lines of words, walked.
  halyardref04.Lines, walked.
  Lists of the document's reader in the cells of one block: what a line more leaves of them.
  The document's reader of a package's line (halyardref05.Dep), walked.
  The document's reader of all lines of a package or a manifest (halyardref05.Lists), walked.
-/
import Derived.Test.YthbnmehbhpakaaaGreatDoorDi21
import Derived.Test.YthbnmehbhpakaaaGreatDoorDi11
import Derived.Test.YthbnmehbhpakaaaGreatDoorDi15
import Derived.Test.YthbnmehbhpakaaaGreatDoorDi16
import Derived.Test.YthbnmehbhpakaaaGreatDoorDi10
import Derived.Test.YthbnmehbhpakaaaGreatDoorDi20
import Derived.Test.YthbnmehbhpakaaaGreatDoorDi07
import Derived.Test.YthbnmehbhpakaaaGreatDoorDi08
import Derived.Test.YthbnmehbhpakaaaGreatDoorDi06
import Derived.Deep.RegionLaw
set_option autoImplicit false
set_option relaxedAutoImplicit false
set_option linter.unusedVariables false
set_option linter.unusedSimpArgs false
namespace Go.Proofs.YthbnmehbhpakaaaGreatDoor
open Go.Rows Go.RowKit Go.Shelf Go.Sort

/-! ### in plain words -/
theorem nodup_inj {l : List ByteArray} (hn : l.Nodup) {i j : Nat} (hi : i < l.length) (hj : j < l.length) (e : l[i] = l[j]) : i = j := by
  rw [List.nodup_iff_pairwise_ne, List.pairwise_iff_getElem] at hn
  refine Classical.byContradiction fun hne => ?_
  rcases Nat.lt_or_gt_of_ne hne with h | h
  · exact hn i j hi hj h e
  · exact hn j i hj hi h e.symm
def okD (d : Dep) : Bool := nameB d.name && (spansB d.range && decide (d.range.length ≠ 0))
/-- may a list be, but for names that stand twice -/
def softB (l : List Dep) : Bool := decide (l.length ≤ 16) && (upB l && l.all okD)
theorem lex_eq : ∀ a b : List UInt8, ¬ a < b → ¬ b < a → a = b
  | [], [], _, _ => rfl
  | [], _ :: _, h, _ => absurd (by simp) h
  | _ :: _, [], _, h => absurd (by simp) h
  | x :: a, y :: b, h1, h2 => by
    rw [List.cons_lt_cons_iff] at h1 h2
    have n1 : ¬ x < y := fun h => h1 (.inl h)
    have n2 : ¬ y < x := fun h => h2 (.inl h)
    have he : x = y := UInt8.le_antisymm (UInt8.not_lt.1 n2) (UInt8.not_lt.1 n1)
    subst he
    rw [lex_eq a b (fun h => h1 (.inr ⟨rfl, h⟩)) (fun h => h2 (.inr ⟨rfl, h⟩))]
theorem listGo_ok : ∀ {l : List Dep} {p : Option ByteArray}, listGo p l = true → (∀ d ∈ l, okD d = true) ∧ (∀ i (h : i + 1 < l.length), lessB (l[i]'(by omega)).name l[i + 1].name = true) ∧ (∀ (h : 0 < l.length), behind p l[0].name = true) := by
  intro l
  induction l with
  | nil => intro p _; exact ⟨fun d hd => (by cases hd), fun i h => absurd h (by simp), fun h => absurd h (by simp)⟩
  | cons d l ih =>
    intro p h
    unfold listGo at h
    simp only [Bool.and_eq_true] at h
    obtain ⟨⟨h1, h2, h3, h4⟩, h5⟩ := h
    obtain ⟨g1, g2, g3⟩ := ih h5
    refine ⟨fun x hx => ?_, fun i hi => ?_, fun _ => h4⟩
    · rcases List.mem_cons.1 hx with rfl | hx
      · unfold okD; rw [h1, h2, h3]; rfl
      · exact g1 x hx
    · cases i with
      | zero => exact g3 (by simpa using hi)
      | succ i => exact g2 i (by simpa using hi)
theorem listGo_of : ∀ {l : List Dep} {p : Option ByteArray}, (∀ d ∈ l, okD d = true) → (∀ i (h : i + 1 < l.length), lessB (l[i]'(by omega)).name l[i + 1].name = true) → (∀ (h : 0 < l.length), behind p l[0].name = true) → listGo p l = true := by
  intro l
  induction l with
  | nil => intro p _ _ _; rfl
  | cons d l ih =>
    intro p h1 h2 h3
    have hd := h1 d (by simp)
    unfold okD at hd
    simp only [Bool.and_eq_true] at hd
    unfold listGo
    simp only [Bool.and_eq_true]
    refine ⟨⟨hd.1, hd.2.1, hd.2.2, h3 (by simp)⟩, ih (fun x hx => h1 x (by simp [hx])) (fun i hi => ?_) (fun h => ?_)⟩
    · exact h2 (i + 1) (by simpa using hi)
    · exact h2 0 (by simpa using h)
theorem softB_parts {l : List Dep} : softB l = true ↔ l.length ≤ 16 ∧ upB l = true ∧ ∀ d ∈ l, okD d = true := by
  unfold softB
  simp only [Bool.and_eq_true, decide_eq_true_eq, List.all_eq_true]
theorem softB_of {l : List Dep} (h : listB l = true) : softB l = true := by
  have h' := h
  unfold listB at h
  rw [Bool.and_eq_true, decide_eq_true_eq] at h
  obtain ⟨g1, g2, _⟩ := listGo_ok h.1
  refine softB_parts.2 ⟨h.2, upB_iff.2 fun i hi hlt => ?_, g1⟩
  have := g2 i hi
  rw [lessB_lt, decide_eq_true_eq] at this
  exact List.lt_irrefl _ (List.lt_trans this hlt)
theorem listB_soft {l : List Dep} (h : softB l = true) (hn : (namesOf l).Nodup) : listB l = true := by
  obtain ⟨h1, h2, h3⟩ := softB_parts.1 h
  unfold listB
  rw [Bool.and_eq_true, decide_eq_true_eq]
  refine ⟨listGo_of h3 (fun i hi => ?_) (fun _ => rfl), h1⟩
  rw [lessB_lt, decide_eq_true_eq]
  have hup := upB_iff.1 h2 i hi
  refine Classical.byContradiction fun hnl => ?_
  have he := data_inj (lex_eq _ _ hnl hup)
  have hi1 : i < (namesOf l).length := by unfold namesOf; rw [List.length_map]; omega
  have hi2 : i + 1 < (namesOf l).length := by unfold namesOf; rw [List.length_map]; omega
  have := nodup_inj hn hi1 hi2 (by simp only [namesOf, List.getElem_map]; exact he)
  omega
/-- may three lists be -/
noncomputable def mayQ (a b c : List Dep) : Bool := listB a && (listB b && (listB c && nodupB (allNames [a, b, c])))
theorem nodup_parts {a b c : List Dep} (h : (allNames [a, b, c]).Nodup) : (namesOf a).Nodup ∧ (namesOf b).Nodup ∧ (namesOf c).Nodup := by
  unfold allNames at h
  simp only [List.map_cons, List.map_nil, List.flatten_cons, List.flatten_nil, List.append_nil, List.nodup_append] at h
  exact ⟨h.1, h.2.1.1, h.2.1.2.1⟩
theorem mayQ_yes {a b c : List Dep} (ha : softB a = true) (hb : softB b = true) (hc : softB c = true) (h : (allNames [a, b, c]).Nodup) : mayQ a b c = true := by
  obtain ⟨n1, n2, n3⟩ := nodup_parts h
  unfold mayQ
  rw [listB_soft ha n1, listB_soft hb n2, listB_soft hc n3, nodupB_true h]
  rfl
theorem mayQ_dup {a b c : List Dep} (h : ¬ (allNames [a, b, c]).Nodup) : mayQ a b c = false := by
  unfold mayQ
  rw [nodupB_false h]
  simp
/-- the three lists by their places -/
def l3 (a b c : List Dep) : Nat → List Dep
  | 0 => a
  | 1 => b
  | _ => c
theorem mayQ_hard {a b c : List Dep} {j : Nat} (hj : j < 3) (h : softB (l3 a b c j) = false) : mayQ a b c = false := by
  have hl : listB (l3 a b c j) = false := by
    rw [← Bool.not_eq_true]
    intro e
    rw [softB_of e] at h
    cases h
  unfold mayQ
  have : j = 0 ∨ j = 1 ∨ j = 2 := by omega
  rcases this with rfl | rfl | rfl
  · rw [show listB a = false from hl]; rfl
  · rw [show listB b = false from hl]; simp
  · rw [show listB c = false from hl]; simp
def catL (f : Nat → List Dep) : Nat → List Dep
  | 0 => []
  | k + 1 => catL f k ++ f k
theorem catL_len {f : Nat → List Dep} : ∀ {k : Nat}, (∀ j, j < k → (f j).length ≤ 16) → (catL f k).length ≤ 16 * k := by
  intro k
  induction k with
  | zero => intro _; simp [catL]
  | succ k ih =>
    intro h
    have h1 := ih (fun j hj => h j (by omega))
    have h2 := h k (by omega)
    simp only [catL, List.length_append]
    omega
theorem catL_names (a b c : List Dep) : namesOf (catL (l3 a b c) 3) = allNames [a, b, c] := by
  simp [catL, l3, namesOf, allNames, List.map_append]
/-- in order, and no two neighbours the same: none stands twice -/
theorem sorted_nodup {l : List ByteArray} (hs : l.Pairwise (fun x y => ¬ y.data.toList < x.data.toList)) (ha : ∀ i (h : i + 1 < l.length), l[i + 1] ≠ l[i]'(by omega)) : l.Nodup := by
  rw [List.nodup_iff_pairwise_ne, List.pairwise_iff_getElem]
  intro i j hi hj hij e
  have hg := List.pairwise_iff_getElem.1 hs
  have h1 : ¬ (l[i + 1]'(by omega)).data.toList < l[i].data.toList := hg i (i + 1) hi (by omega) (by omega)
  have h2 : ¬ l[i].data.toList < (l[i + 1]'(by omega)).data.toList := by
    by_cases h : i + 1 = j
    · subst h; rw [e]; exact List.lt_irrefl _
    · have := hg (i + 1) j (by omega) hj (by omega)
      rw [← e] at this
      exact this
  exact ha i (by omega) (data_inj (lex_eq _ _ h1 h2))
theorem sorted_dup {l : List ByteArray} {i : Nat} (h : i + 1 < l.length) (e : l[i + 1] = l[i]'(by omega)) : ¬ l.Nodup := fun hn => by
  have := nodup_inj hn h (by omega : i < l.length) e
  omega

set_option maxHeartbeats 8000000 in
set_option maxRecDepth 100000 in
theorem manMay_any (A0 A1 A2 : Option Addr) (n0 n1 n2 c0 c1 c2 : Nat) (a b c : List Dep) (w : World) (S0 S1 S2 : Nat → Prop) (h0 : SlV rDep w S0 a (.slice A0 n0 c0)) (h1 : SlV rDep w S1 b (.slice A1 n1 c1)) (h2 : SlV rDep w S2 c (.slice A2 n2 c2)) :
    Calls Tryz.prog 127 #[.slice A0 n0 c0, .slice A1 n1 c1, .slice A2 n2 c2] w fun e w' => e = .returned (.bool (mayQ a b c)) ∧ Below w.heap.size w w' := by
  obtain ⟨v, hv⟩ : ∃ v : Nat → Value, v = fun | 0 => .slice A0 n0 c0 | 1 => .slice A1 n1 c1 | _ => .slice A2 n2 c2 := ⟨_, rfl⟩
  have hls : ∀ j, j < 3 → SlV rDep w (fun b => b < w.heap.size) (l3 a b c j) (v j) := fun j hj => by
    have : j = 0 ∨ j = 1 ∨ j = 2 := by omega
    rcases this with rfl | rfl | rfl
    · rw [hv]; exact h0.more fun b _ h => h
    · rw [hv]; exact h1.more fun b _ h => h
    · rw [hv]; exact h2.more fun b _ h => h
  have HLs := Lib.hid hls
  have Hyes := Lib.hid (fun x y z t => mayQ_yes (a := a) (b := b) (c := c) x y z t)
  have Hdup := Lib.hid (fun h => mayQ_dup (a := a) (b := b) (c := c) h)
  have Hhard := Lib.hid (fun j (hj : j < 3) h => mayQ_hard (a := a) (b := b) (c := c) (j := j) hj h)
  have Hcat : Hid (namesOf (catL (l3 a b c) 3) = allNames [a, b, c]) := catL_names a b c
  have Hs0 : Hid (∀ k : Nat, (∀ j, j < 3 → softB (l3 a b c j) = true) → softB a = true ∧ softB b = true ∧ softB c = true) := fun _ h => ⟨h 0 (by decide), h 1 (by decide), h 2 (by decide)⟩
  have hcells : cellsP [] 3 v = #[.slice A0 n0 c0, .slice A1 n1 c1, .slice A2 n2 c2] := by rw [hv]; rfl
  clear h0 h1 h2 hls
  generalize mayQ a b c = r at *
  generalize l3 a b c = f at *
  go_enter Tryz.func127, Tryz.ntmps127
  go_upto_region 4 with (fail)
  obtain ⟨w1, hw1⟩ : ∃ w1, w1 = w.alloc (.cells #[.slice A0 n0 c0, .slice A1 n1 c1, .slice A2 n2 c2] 22) := ⟨_, rfl⟩
  have HPa : Hid (PartsAt w.heap.size [] 22 3 w1 v) := by unfold Hid PartsAt; rw [hw1, hcells]; exact heap_alloc_new w _
  have HB1 : Hid (Below w.heap.size w w1) := by unfold Hid; rw [hw1]; exact bal (Below.refl _ _) _
  have hz1 : w.heap.size < w1.heap.size := HPa.out.lt
  rw [← hw1]
  clear hw1 hcells hv
  go_loopw [8, 19] (fun x i wr => ∃ (k : Nat) (S : Nat → Prop), k ≤ 3 ∧ i = .int .i64 k ∧ Hid (∀ j, j < k → softB (f j) = true) ∧ Hid (Own rDep wr w1.heap.size 158 x (catL f k) S) ∧ Hid (∀ b, S b → b < w1.heap.size) ∧ Hid (Below w1.heap.size w1 wr)) (fun _ i _ => 3 - (intOf i).toNat)
  case atStart => exact ⟨0, fun _ => False, by decide, rfl, fun j hj => absurd hj (by omega), Own.nil_ _ _ _ _ (fun b hb => hb.elim), fun b hb => hb.elim, Below.refl _ _⟩
  case round =>
    obtain ⟨k, S, hk, rfl, Hsoft, Hown, HS, HB⟩ := hrel
    have HBw := Lib.hid (bot HB1.out HB.out)
    have hzr := HB.out.size
    have hk0 : (0 : Int) ≤ (k : Int) := by omega
    by_cases hlt : k < 3
    case neg =>
      obtain rfl : k = 3 := by omega
      have hI3 : ¬ (3 : Int) < 3 := by omega
      have hcl : (catL f 3).length ≤ 48 := catL_len (fun j hj => (softB_parts.1 (Hsoft.out j hj)).1)
      have Hsort := Lib.hid (sortDep_any u8 (catL f 3) wr w1.heap.size S Hown.out (by omega))
      rw [Hcat.out] at Hsort
      obtain ⟨hs1, hs2, hs3⟩ := Hs0.out 0 Hsoft.out
      have Hyes' := Lib.hid (Hyes.out hs1 hs2 hs3)
      have hcn : (allNames [a, b, c]).length ≤ 48 := by rw [← Hcat.out]; unfold namesOf; rw [List.length_map]; exact hcl
      have Hcn := Lib.hid hcn
      clear hs1 hs2 hs3 Hyes Hs0 Hhard hcl hcn Hsoft Hown HS
      go_wp2_with fail
      refine Hsort.out.mono ?_
      rintro e w2 ⟨rfl, l', hperm, hsrt, hs', hbb⟩
      have HB2 : Hid (Below w.heap.size w w2) := HBw.out.trans ((hbb hzr).mono (Nat.le_of_lt hz1))
      have hnd : l'.Nodup ↔ (allNames [a, b, c]).Nodup := hperm.nodup_iff
      have hll : l'.length ≤ 48 := by rw [hperm.length_eq]; exact Hcn.out
      have Hno : Hid (∀ i (h : i + 1 < l'.length), l'[i + 1] = l'[i]'(by omega) → r = false) := fun i h e => Hdup.out (fun hn => sorted_dup h e (hnd.2 hn))
      have Hyes2 : Hid ((∀ i (h : i + 1 < l'.length), l'[i + 1] ≠ l'[i]'(by omega)) → r = true) := fun h => Hyes'.out (hnd.1 (sorted_nodup hsrt h))
      obtain ⟨A, cc, rfl, hc1, hc2⟩ := hs'.val
      obtain ⟨m, hm⟩ : ∃ m, m = l'.length := ⟨_, rfl⟩
      rw [← hm] at hs' hc1 hll ⊢
      have Hs' := Lib.hid (hs'.more (S' := fun b => b < w2.heap.size) fun b _ h => h)
      have Hm := Lib.hid hm
      unfold maxLen at hc2
      clear hperm hsrt hs' hbb hnd hm Hdup Hyes' Hsort HBw HB Hcat Hcn hzr
      go_wp2_with fail
      go_loopw [13] (fun t wi => ∃ k : Nat, 1 ≤ k ∧ (k ≤ m ∨ k = 1) ∧ t = .int .i64 k ∧ Hid (∀ i (h : i + 1 < l'.length), i + 1 < k → l'[i + 1] ≠ l'[i]'(by omega)) ∧ Hid (Below w2.heap.size w2 wi)) (fun t _ => m - (intOf t).toNat)
      case atStart => exact ⟨1, Nat.le_refl _, .inr rfl, rfl, fun i h hi => absurd hi (by omega), Below.refl _ _⟩
      case round =>
        obtain ⟨k, hk1, hkm, rfl, Hne, HBi⟩ := hrel
        have HBf := Lib.hid (bot HB2.out HBi.out)
        by_cases hlt : k < m
        case neg =>
          have hlI : ¬ (k : Int) < (m : Int) := by omega
          have hr := Hyes2.out (fun i h => Hne.out i h (by have := Hm.out; omega))
          subst hr
          clear Hyes2 Hno Hne
          go_wp2_with fail
          go_ret
          exact ⟨rfl, HBf.out⟩
        obtain ⟨q, rfl⟩ : ∃ q, k = q + 1 := ⟨k - 1, by omega⟩
        have hq1 : q + 1 < l'.length := by have := Hm.out; omega
        have hlw := Hs'.out.belowSize HBi.out
        obtain ⟨b1, o1, cs, rfl, _, hbl, ⟨⟨A', n', c', rfl⟩, _⟩, hcell⟩ := hlw.elem (List.getElem?_eq_getElem hq1)
        obtain ⟨b2, o2, cs2, he2, _, _, ⟨⟨A'', n'', c'', rfl⟩, _⟩, hcell2⟩ := hlw.elem (List.getElem?_eq_getElem (show q < l'.length by omega))
        injection he2 with he2
        injection he2 with e1 e2 _
        subst e1 e2
        have x0 := hcell 0 _ rfl
        have x1 := hcell2 0 _ rfl
        simp only [rNm, Nat.add_zero] at x0 x1
        have Hn := Lib.hid (fun e => Hno.out q hq1 e)
        have Hy : Hid (l'[q + 1] ≠ l'[q] → ∀ i (h : i + 1 < l'.length), i + 1 < q + 1 + 1 → l'[i + 1] ≠ l'[i]'(by omega)) := fun h i hi hiq => by
          by_cases e : i = q
          · subst e; exact h
          · exact Hne.out i hi (by omega)
        have hw1 : IntKind.i64.wrap (((q + 1 : Nat) : Int) - 1) = (q : Int) := by rw [IntWalk.i64_in _ ⟨by omega, by omega⟩]; omega
        have hw2 : IntKind.i64.wrap ((q : Int) + 1 - 1) = (q : Int) := by rw [IntWalk.i64_in _ ⟨by omega, by omega⟩]; omega
        have hq0 : (0 : Int) ≤ (q : Int) := by omega
        have hqm : (q : Int) < (m : Int) := by omega
        have hqm1 : ((q + 1 : Nat) : Int) < (m : Int) := by omega
        have hq01 : (0 : Int) ≤ ((q + 1 : Nat) : Int) := by omega
        clear hcell hcell2 hlw Hno Hne
        generalize l'[q + 1] = nx at *
        generalize l'[q] = ny at *
        by_cases he : nx = ny
        · have hr := Hn.out he
          have hbe := beq_true he
          subst hr
          clear Hn Hy Hyes2 he
          go_wp2_with fail
          have r_x0 := cell_regrown x0
          have r_x1 := cell_regrown x1
          go_wp2_with fail
          refine wp_region_qb (by kernel_rfl) (by kernel_rfl) ?_
          repeat (go_big_quiet_step (first | fail))
          refine wpQuiet_nil ?_
          intro wq Bq
          have HBq := Lib.hid (bot HBf.out Bq)
          clear Bq r_x0 r_x1
          go_wp2_with fail
          go_ret
          exact ⟨rfl, HBq.out⟩
        · have Hy' := Lib.hid (Hy.out he)
          have hbe := beq_false he
          clear Hn Hy he
          go_wp2_with fail
          have r_x0 := cell_regrown x0
          have r_x1 := cell_regrown x1
          go_wp2_with fail
          refine wp_region_qb (by kernel_rfl) (by kernel_rfl) ?_
          repeat (go_big_quiet_step (first | fail))
          refine wpQuiet_nil ?_
          intro wq Bq
          have HBq := Lib.hid (bot HBi.out Bq)
          clear Bq r_x0 r_x1
          go_wp2_with fail
          go_roundw
          case rel => exact ⟨q + 1 + 1, by omega, .inl (by omega), by go_num, Hy', HBq⟩
          case measure => simp [intOf]; omega
    have hkI : (k : Int) < 3 := by omega
    have hls := HLs.out k hlt
    obtain ⟨Ak, ck, hvk, hck1, hck2⟩ := hls.val
    have hp := (HPa.out.keep HB.out).cell hlt
    rw [hvk] at hls hp
    simp only [List.length_nil, Nat.zero_add] at hp
    obtain ⟨nk, hnk⟩ : ∃ nk, nk = (f k).length := ⟨_, rfl⟩
    rw [← hnk] at hp hls hck1
    have Hnk := Lib.hid hnk
    have Hlk := Lib.hid hls
    have hhard := Hhard.out k hlt
    have Hhk := Lib.hid hhard
    unfold maxLen at hck2
    clear hhard hls hvk hnk
    by_cases h16 : nk ≤ 16
    case neg =>
      have hr := Hhk.out (by
        rw [← Bool.not_eq_true]
        intro e
        have := (softB_parts.1 e).1
        have := Hnk.out
        omega)
      subst hr
      have h16I : (16 : Int) < (nk : Int) := by omega
      clear Hhk Hyes Hdup Hhard Hsoft
      go_wp2_with fail
      go_ret
      exact ⟨rfl, HBw.out⟩
    have h16I : ¬ (16 : Int) < (nk : Int) := by omega
    have Hsd := Lib.hid (isSorted_any Ak nk ck (f k) wr _ (Hlk.out.belowSize HBw.out))
    cases hup : upB (f k) with
    | false =>
      have hr := Hhk.out (by
        rw [← Bool.not_eq_true]
        intro e
        have := (softB_parts.1 e).2.1
        rw [hup] at this
        cases this)
      subst hr
      rw [hup] at Hsd
      clear Hhk Hyes Hdup Hhard Hsoft hup
      go_wp2_with fail
      refine Hsd.out.mono ?_
      rintro e w2 ⟨rfl, hb2⟩
      go_wp2_with fail
      go_ret
      exact ⟨rfl, bot HBw.out hb2⟩
    | true =>
    rw [hup] at Hsd
    have Hup := Lib.hid hup
    clear hup
    go_wp2_with fail
    refine Hsd.out.mono ?_
    rintro e w2 ⟨rfl, hb2⟩
    have HB2 := Lib.hid (bot HB.out hb2)
    have HBw2 := Lib.hid (bot HBw.out hb2)
    have Hown2 := Lib.hid (Hown.out.keep hb2)
    clear hb2 HB HBw Hown hzr hp Hsd
    have hzr := HB2.out.size
    obtain ⟨wo, hwo⟩ : ∃ wo : World, wo = w2 := ⟨_, rfl⟩
    subst hwo
    go_wp2_with fail
    go_loopw [34] (fun t wi => ∃ q : Nat, q ≤ nk ∧ t = .int .i64 q ∧ Hid (∀ i (h : i < (f k).length), i < q → okD (f k)[i] = true) ∧ Hid (Below wo.heap.size wo wi)) (fun t _ => nk - (intOf t).toNat)
    case atStart => exact ⟨0, Nat.zero_le _, rfl, fun i h hi => absurd hi (by omega), Below.refl _ _⟩
    case round =>
      obtain ⟨q, hq, rfl, Hok, HBi⟩ := hrel
      have HBwi := Lib.hid (bot HBw2.out HBi.out)
      have hq0 : (0 : Int) ≤ (q : Int) := by omega
      by_cases hql : q < nk
      case neg =>
        obtain rfl : q = nk := by omega
        have hqI : ¬ (q : Int) < (q : Int) := by omega
        have hsk : softB (f k) = true := softB_parts.2 ⟨by have := Hnk.out; omega, Hup.out, fun d hd => by
          obtain ⟨i, hi, rfl⟩ := List.mem_iff_getElem.1 hd
          exact Hok.out i hi (by have := Hnk.out; omega)⟩
        have Hsk := Lib.hid hsk
        have Hown3 := Lib.hid (Hown2.out.keep HBi.out)
        have HB3 := Lib.hid (bot HB2.out HBi.out)
        have Hl3 := Lib.hid ((Hlk.out.belowSize HBwi.out).more (S' := fun b => b < w1.heap.size) fun b hb _ => Nat.lt_trans hb hz1)
        have hcl : (catL f k).length ≤ 16 * k := catL_len (fun j hj => (softB_parts.1 (Hsoft.out j hj)).1)
        have Hcl := Lib.hid hcl
        have hz3 := HB3.out.size
        have hlo := fun g hg => (Hown3.out.lt g hg).1
        have Hlo := Lib.hid hlo
        clear hsk hcl hlo Hok HBi HBwi Hown2 HB2 HBw2
        go_wp2_with (at_builtin; refine wpList_extend (by rfl) _ _ _ (by rfl) elt_dep Tryz.underlying22 (by rfl) Hown3.out (fun b => b < w1.heap.size) (f k) _ _ _ (by rfl) Hl3.out (by intro b hb he; have := Hlo.out b he; omega) (by rw [← Hnk.out]; have := Hcl.out; unfold maxLen; omega) (by rw [← Hnk.out]; have := Hcl.out; omega) hz3 ?_)
        intro v4 w4 hown4 hgrow4 hat4
        have HB4 : Hid (Below w1.heap.size w1 w4) := HB3.out.grown hgrow4 hz3 (fun g hg => Hlo.out g hg)
        have Hown4 := Lib.hid hown4
        clear hown4 hgrow4 hat4 Hown3 HB3 Hl3 Hcl Hlo
        go_wp2_with fail
        go_roundw
        case rel =>
          refine ⟨k + 1, _, by omega, by go_num, fun j hj => ?_, Hown4, fun b hb => ?_, HB4⟩
          · by_cases e : j = k
            · subst e; exact Hsk.out
            · exact Hsoft.out j (by omega)
          · rcases hb with hb | hb
            · exact HS.out b hb
            · exact hb.1
        case measure => simp [intOf]; omega
      have hqI : (q : Int) < (nk : Int) := by omega
      have hqx : q < (f k).length := by have := Hnk.out; omega
      have hlw := Hlk.out.belowSize HBwi.out
      obtain ⟨bd, od, cs, rfl, _, hbl, ⟨s0, rfl, hnz, hsr⟩, hcell⟩ := hlw.elem (List.getElem?_eq_getElem hqx)
      obtain ⟨Ar, cr, rfl, _, hcr⟩ := hsr.val
      have e0 := hcell 0 _ rfl
      have e1 := hcell 1 _ rfl
      simp only [rDep, Nat.add_zero] at e0 e1
      have Hbad : Hid (okD (f k)[q] = false → r = false) := fun h => Hhk.out (by
        rw [← Bool.not_eq_true]
        intro e
        rw [(softB_parts.1 e).2.2 _ (List.getElem_mem hqx)] at h
        cases h)
      have Hgood : Hid (okD (f k)[q] = true → ∀ i (h : i < (f k).length), i < q + 1 → okD (f k)[i] = true) := fun h i hi hiq => by
        by_cases e : i = q
        · subst e; exact h
        · exact Hok.out i hi (by omega)
      have HokD : Hid (okD (f k)[q] = (nameB (f k)[q].name && (spansB (f k)[q].range && decide ((f k)[q].range.length ≠ 0)))) := rfl
      have HN : Hid (∀ W, Calls Tryz.prog 61 #[.string (f k)[q].name] W fun e w' => e = .returned (.bool (nameB (f k)[q].name)) ∧ Below W.heap.size W w') := fun W => scanName_any _ hnz W
      have HM : Hid (∀ W, Below wr.heap.size wr W → Calls Tryz.prog 188 #[.slice Ar (f k)[q].range.length cr] W fun e w' => e = .returned (.bool (spansB (f k)[q].range)) ∧ Below W.heap.size W w') := fun W hW => spanMay_any _ _ _ _ W _ (hsr.belowSize hW)
      unfold maxLen at hcr
      clear hcell hlw
      generalize okD (f k)[q] = og at *
      generalize nameB (f k)[q].name = g1 at *
      generalize (f k)[q].name = dn at *
      generalize spansB (f k)[q].range = g2 at *
      generalize hnr : (f k)[q].range.length = nr at *
      have hqbd : bd < wr.heap.size := hbl
      have hne : bd ≠ wr.heap.size := by omega
      have Hsr := Lib.hid hsr
      clear hsr hnr
      go_upto_region 11 with (fail)
      obtain ⟨w5, hw5⟩ : ∃ w5, w5 = wr.alloc (.cells #[.string dn, .slice Ar nr cr] 158) := ⟨_, rfl⟩
      have hr5 : w5.heap[wr.heap.size]? = some (.cells #[.string dn, .slice Ar nr cr] 158 (0, 0)) := by rw [hw5]; exact heap_alloc_new wr _
      have hb5 : Below wr.heap.size wr w5 := by rw [hw5]; exact bal (Below.refl _ _) _
      have hz5 : wr.heap.size < w5.heap.size := (Array.getElem?_eq_some_iff.1 hr5).1
      rw [← hw5]
      obtain ⟨⟨a0, a1⟩, _⟩ := row2 hr5
      have Hr5 := Lib.hid hr5
      have HB5 := Lib.hid (bot HBi.out hb5)
      have HBw5 := Lib.hid (bot HBwi.out hb5)
      have Hb5 := Lib.hid hb5
      clear hw5 hr5 hb5 e0 e1
      go_wp2_with fail
      refine (HN.out w5).mono ?_
      rintro e w6 ⟨rfl, hb6⟩
      obtain ⟨⟨d0, d1⟩, _⟩ := row2 ((hb6.block _ hz5).trans Hr5.out)
      have HB6 := Lib.hid (bot HB5.out hb6)
      have HBw6 := Lib.hid (bot HBw5.out hb6)
      have Hb6 := Lib.hid (bot Hb5.out hb6)
      have hr6 := (hb6.block _ hz5).trans Hr5.out
      have hz6 : wr.heap.size < w6.heap.size := Nat.lt_of_lt_of_le hz5 hb6.size
      clear hb6 HB5 HBw5 Hb5 Hr5 a0 a1 HN
      cases g1 with
      | false =>
        have hr := Hbad.out (by rw [HokD.out]; rfl)
        subst hr
        clear Hbad Hgood HokD HM Hhk Hyes Hdup Hhard
        go_wp2_with fail
        go_ret
        exact ⟨rfl, HBw6.out⟩
      | true =>
      go_wp2_with fail
      refine (HM.out w6 Hb6.out).mono ?_
      rintro e w7 ⟨rfl, hb7⟩
      obtain ⟨⟨a0, a1⟩, _⟩ := row2 ((hb7.block _ hz6).trans hr6)
      have HB7 := Lib.hid (bot HB6.out hb7)
      have HBw7 := Lib.hid (bot HBw6.out hb7)
      clear hb7 HB6 HBw6 Hb6 d0 d1 HM hr6
      cases g2 with
      | false =>
        have hr := Hbad.out (by rw [HokD.out]; rfl)
        subst hr
        clear Hbad Hgood HokD Hhk Hyes Hdup Hhard
        go_wp2_with fail
        go_ret
        exact ⟨rfl, HBw7.out⟩
      | true =>
      by_cases hn0 : nr = 0
      · have hr := Hbad.out (by rw [HokD.out, hn0]; rfl)
        subst hr hn0
        clear Hbad Hgood HokD Hhk Hyes Hdup Hhard
        go_wp2_with fail
        go_ret
        exact ⟨rfl, HBw7.out⟩
      · have hg := Hgood.out (by rw [HokD.out]; simp [hn0])
        have Hg := Lib.hid hg
        have hnI : ((nr : Int) == 0) = false := by rw [beq_eq_false_iff_ne]; omega
        clear Hbad Hgood HokD hg hn0 Hok
        go_wp2_with fail
        go_roundw
        case rel => exact ⟨q + 1, by omega, by go_num, Hg, HB7⟩
        case measure => simp [intOf]; omega
end Go.Proofs.YthbnmehbhpakaaaGreatDoor
set_option autoImplicit false
set_option relaxedAutoImplicit false
set_option linter.unusedVariables false
set_option linter.unusedSimpArgs false
namespace Go.Proofs.YthbnmehbhpakaaaGreatDoor
open Go.Rows Go.RowKit Go.Shelf Go.Sort

/-- the bytes from a place to another one -/
def cutL (s : List UInt8) (b k : Nat) : List UInt8 := (s.take k).drop b
theorem cutL_self (s : List UInt8) (k : Nat) : cutL s k k = [] := by unfold cutL; rw [List.drop_eq_nil_of_le]; rw [List.length_take]; omega
theorem cutL_extract {s : ByteArray} {b k : Nat} (hk : k ≤ s.size) : s.extract b k = mkB (cutL s.data.toList b k) := by
  apply bytes_ext
  rw [mkB_data]
  unfold cutL
  rw [show (s.extract b k).data.toList = (s.data.toList.take k).drop b from by
    simp [ByteArray.data_extract, Array.toList_extract, List.extract_eq_take_drop, List.drop_take]]
theorem cutL_next {s : ByteArray} {b k : Nat} (hb : b ≤ k) (hk : k < s.size) : cutL s.data.toList b (k + 1) = cutL s.data.toList b k ++ [s[k]] := by
  have h' : k < s.data.toList.length := by rw [← size_data]; exact hk
  unfold cutL
  rw [List.take_succ_eq_append_getElem h', List.drop_append_of_le_length (by rw [List.length_take]; omega)]
  have e : s.data.toList[k] = s[k] := by
    have := byte_at s k hk
    rw [List.drop_eq_getElem_cons h'] at this
    exact (List.cons.inj this).1
  rw [e]
theorem elt_strs : Elt Tryz.prog 53 1 24 := Elt.mk' (z := .slice none 0 0) (by kernel_rfl) rfl (by decide)

end Go.Proofs.YthbnmehbhpakaaaGreatDoor
set_option autoImplicit false
set_option relaxedAutoImplicit false
set_option linter.unusedVariables false
set_option linter.unusedSimpArgs false
namespace Go.Proofs.YthbnmehbhpakaaaGreatDoor
open Go.Rows Go.RowKit Go.Shelf Go.Sort

/-- lines of words as the values show them -/
def wordsM (l : List (List (List UInt8))) : List (List ByteArray) := l.map fun w => w.map mkB
end Go.Proofs.YthbnmehbhpakaaaGreatDoor
set_option autoImplicit false
set_option relaxedAutoImplicit false
set_option linter.unusedVariables false
set_option linter.unusedSimpArgs false
namespace Go.Proofs.YthbnmehbhpakaaaGreatDoor
open Go.Rows Go.RowKit Go.Shelf Go.Sort

/-- lists of the call's own, in rows that are apart -/
def PartsR (n B : Nat) (w : World) (v : Nat → Value) (l : Nat → List Dep) (S : Nat → Prop) : Prop :=
  (∀ j, j < n → Own rDep w B 158 (v j) (l j) S) ∧ (∀ b, S b → B ≤ b) ∧ (∀ i j g, i < n → j < n → i ≠ j → (v i).ownBlock = some g → (v j).ownBlock ≠ some g)
section
variable {n B : Nat} {w w' : World} {v : Nat → Value} {l : Nat → List Dep} {S : Nat → Prop}
theorem PartsR.nil (n B : Nat) (w : World) : PartsR n B w (fun _ => .slice none 0 0) (fun _ => []) (fun _ => False) :=
  ⟨fun _ _ => Own.nil_ _ _ _ _ (fun b hb => hb.elim), fun b hb => hb.elim, fun _ _ _ _ _ _ h => by cases h⟩
theorem PartsR.keep (h : PartsR n B w v l S) (hb : Below w.heap.size w w') : PartsR n B w' v l S :=
  ⟨fun j hj => (h.1 j hj).keep hb, h.2.1, h.2.2⟩
theorem PartsR.at (h : PartsR n B w v l S) {b : Nat} (hb : b < B) (hg : w.grownBy w' (some b)) : PartsR n B w' v l S := by
  refine ⟨fun j hj => (h.1 j hj).grown hg ?_ ?_, h.2.1, h.2.2⟩
  · cases hv : (v j).ownBlock with
    | none => exact .inl rfl
    | some g => exact .inr fun e => by have := ((h.1 j hj).lt g hv).1; simp only [Option.some.injEq] at e; omega
  · intro c hs e
    cases e
    have := h.2.1 b hs; omega
theorem PartsR.more (h : PartsR n B w v l S) (hb : Below w.heap.size w w') (hB : B ≤ w.heap.size) : PartsR n B w' v l (fun b => S b ∨ (w.heap.size ≤ b ∧ b < w'.heap.size)) := by
  have hk := h.keep hb
  refine ⟨fun j hj => (hk.1 j hj).more ?_ (fun b hs => .inl hs), ?_, h.2.2⟩
  · rintro b (hs | hs)
    · exact (hk.1 j hj).1 b hs
    · exact ⟨hs.2, fun e => by have := ((h.1 j hj).lt b e).2; have := hs.1; omega⟩
  · rintro b (hs | hs)
    · exact h.2.1 b hs
    · exact Nat.le_trans hB hs.1
theorem PartsR.push {o : Obj} {k g m cap : Nat} {d : Dep} (h : PartsR n B w v l S) (hk : k < n) (hown : Own rDep w' B 158 (.slice (some ⟨g, 0, none⟩) m cap) (l k ++ [d]) S)
    (hg : (w.alloc o).grownBy w' (v k).ownBlock) (hat : (v k).ownBlock = some g ∨ g = w.heap.size + 1) : PartsR n B w' (upd v k (.slice (some ⟨g, 0, none⟩) m cap)) (upd l k (l k ++ [d])) S := by
  have hS : ∀ b, S b → some b ≠ (v k).ownBlock := fun b hb => Ne.symm ((h.1 k hk).1 b hb).2
  have hv : ∀ j, j < n → j ≠ k → (v j).ownBlock ≠ some g := fun j hj hne e => by
    rcases hat with hat | hat
    · exact h.2.2 j k g hj hk hne e hat
    · have := ((h.1 j hj).lt g e).2; omega
  refine ⟨fun j hj => ?_, h.2.1, fun i j q hi hj hne hq => ?_⟩
  · by_cases e : j = k
    · subst e; rw [upd_at, upd_at]; exact hown
    · rw [upd_ne _ _ e, upd_ne _ _ e]
      refine ((h.1 j hj).alloc o).grown hg ?_ hS
      cases hvj : (v j).ownBlock with
      | none => exact .inl rfl
      | some q => exact .inr fun e' => h.2.2 j k q hj hk e hvj e'.symm
  · by_cases ei : i = k
    · subst ei
      rw [upd_at] at hq
      simp only [Value.ownBlock, Option.some.injEq] at hq
      subst hq
      rw [upd_ne _ _ (Ne.symm hne)]
      exact hv j hj (Ne.symm hne)
    · rw [upd_ne _ _ ei] at hq
      by_cases ej : j = k
      · subst ej
        rw [upd_at]
        intro e
        simp only [Value.ownBlock, Option.some.injEq] at e
        subst e
        exact hv i hi ei hq
      · rw [upd_ne _ _ ej]
        exact h.2.2 i j q hi hj hne hq
end
end Go.Proofs.YthbnmehbhpakaaaGreatDoor
set_option autoImplicit false
set_option relaxedAutoImplicit false
set_option linter.unusedVariables false
set_option linter.unusedSimpArgs false
namespace Go.Proofs.YthbnmehbhpakaaaGreatDoor
open Go.Rows Go.RowKit Go.Shelf Go.Sort

end Go.Proofs.YthbnmehbhpakaaaGreatDoor
set_option autoImplicit false
set_option relaxedAutoImplicit false
set_option linter.unusedVariables false
set_option linter.unusedSimpArgs false
namespace Go.Proofs.YthbnmehbhpakaaaGreatDoor
open Go.Rows Go.RowKit Go.Shelf Go.Sort

end Go.Proofs.YthbnmehbhpakaaaGreatDoor
