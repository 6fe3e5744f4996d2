/-
  The document's lock: pins, edges: walked.
-/
import Derived.Test.YthbnmehbhpakaaaGreatDoorTl25
import Derived.Test.YthbnmehbhpakaaaGreatDoorTl11
import Derived.Test.YthbnmehbhpakaaaGreatDoorTl02
set_option autoImplicit false
set_option relaxedAutoImplicit false
set_option linter.unusedVariables false
set_option linter.unusedSimpArgs false
namespace Go.Proofs.YthbnmehbhpakaaaGreatDoor
open Go.Rows Go.RowKit Go.Shelf Go.Sort

theorem refLess_any (a b : ByteArray) (ha : a.size ≤ maxLen) (hb : b.size ≤ maxLen) (w : World) :
    Calls Tryz.prog 215 #[.string a, .string b] w fun e w' => e = .returned (.bool (lessB a b)) ∧ Below w.heap.size w w' := by
  have H := Lib.hid (fun W => less_any a b ha hb W)
  go_enter Tryz.func215, Tryz.ntmps215
  go_wp2_with fail
  refine (H.out _).mono ?_
  rintro e w1 ⟨rfl, hb1⟩
  go_wp2_with fail
  go_ret
  exact ⟨rfl, hb1⟩

set_option maxHeartbeats 3200000 in
set_option maxRecDepth 100000 in
theorem refPins07_any (A : Option Addr) (n c : Nat) (l : List Pin) (w : World) (S : Nat → Prop) (hl : SlV rPin w S l (.slice A n c)) :
    Calls Tryz.prog 153 #[.slice A n c] w fun e w' => e = .returned (.bool (risesB (pinNames l) && pinsOk l)) ∧ Below w.heap.size w w' := by
  have hnx := hl.n_eq
  have hcc := hl.cap_le
  unfold maxLen at hcc
  have hn63 : n ≤ 9223372036854775807 := by omega
  have hl' := hl.more (S' := fun b => b < w.heap.size) fun b _ hlt => hlt
  have Hs : Hid ((risesB (pinNames l) && pinsOk l) = ((risesGo (prevAt (pinNames l) 0) ((pinNames l).drop 0) && pinsOk (l.drop 0)) && decide (n ≤ 128))) := by
    unfold Hid risesB
    rw [show (pinNames l).length = n from by unfold pinNames; rw [List.length_map]; exact hnx.symm]
    show _ = ((risesGo none (pinNames l) && pinsOk (l)) && decide (n ≤ 128))
    cases risesGo none (pinNames l) <;> cases pinsOk (l) <;> cases decide (n ≤ 128) <;> rfl
  have Hnx := Lib.hid hnx
  clear hl hcc hnx
  generalize (risesB (pinNames l) && pinsOk l) = r at *
  go_enter Tryz.func153, Tryz.ntmps153
  go_wp2_with fail
  go_loopw [3] (fun i wr => ∃ (k : Nat), k ≤ n ∧ i = .int .i64 k ∧ Hid (r = ((risesGo (prevAt (pinNames l) k) ((pinNames l).drop k) && pinsOk (l.drop k)) && decide (n ≤ 128))) ∧ Below w.heap.size w wr) (fun i _ => n - (intOf i).toNat)
  case atStart => exact ⟨0, Nat.zero_le _, rfl, Hs, Below.refl _ _⟩
  case round =>
    clear Hs
    obtain ⟨k, hk, rfl, Hm, hbel⟩ := hrel
    have hbw := hbel.size
    by_cases hlt : k < n
    case neg =>
      obtain rfl : k = n := by omega
      have hI : ¬ (k : Int) < (k : Int) := by omega
      have Hr : Hid (r = decide (k ≤ 128)) := by
        unfold Hid
        rw [Hm.out, risesGo_done (by unfold pinNames; rw [List.length_map, ← Hnx.out]; exact Nat.le_refl _), List.drop_eq_nil_of_le (by rw [← Hnx.out]; exact Nat.le_refl _)]
        rfl
      clear Hm
      by_cases h1 : k ≤ 128
      · have h1I : (k : Int) ≤ 128 := by omega
        rw [decide_eq_true h1] at Hr
        go_wp2_with fail
        go_ret
        exact ⟨ret_bL Hr.out.symm, hbel⟩
      · have h1I : ¬ (k : Int) ≤ 128 := by omega
        rw [decide_eq_false h1] at Hr
        go_wp2_with fail
        go_ret
        exact ⟨ret_bL Hr.out.symm, hbel⟩
    have hkx : k < l.length := by rw [← Hnx.out]; exact hlt
    have hlw := hl'.below hbel (fun b hb => hb)
    have hlw2 := Lib.hid hlw
    obtain ⟨x, hx⟩ : ∃ x, l[k]? = some x := ⟨_, List.getElem?_eq_getElem hkx⟩
    have hxn : (pinNames l)[k]? = some x.name := by unfold pinNames; rw [List.getElem?_map, hx]; rfl
    have h3 := Hm.out
    rw [risesGo_step hxn, pinsOk_step hx] at h3
    have Hst := Lib.hid h3
    clear h3 Hm
    obtain ⟨b, o, cs, hA, hSb, hbl, hh, hcell⟩ := hlw.elem hx
    subst hA
    obtain ⟨hcs, hnm, _, _, _⟩ := hh
    have c0 := hcell 0 _ (by rw [hcs]; rfl)
    have c1 := hcell 1 _ (by rw [hcs]; rfl)
    have c2 := hcell 2 _ (by rw [hcs]; rfl)
    have c3 := hcell 3 _ (by rw [hcs]; rfl)
    simp only [rPin, Nat.add_zero] at c0 c1 c2 c3
    clear hcell hlw hcs
    have hk0 : (0 : Int) ≤ (k : Int) := by omega
    have hkn : (k : Int) < (n : Int) := by omega
    have Hc1 : Hid (∀ d os, Calls Tryz.prog 88 #[.string x.name] (grow (redrawn wr d) os) fun e w'' => e = .returned (.bool (nameB x.name)) ∧ ∃ p : Regrown, w'' = grow (redrawn wr p.d) p.os) := qcall (w := wr) (fun W hW => (refName_any x.name hnm W).mono fun e w' ⟨he, hw⟩ => ⟨he, hw ▸ Below.refl _ _⟩)
    have Hc2 : Hid (∀ d os, Calls Tryz.prog 152 #[.agg #[.int .i64 x.ver.major, .int .i64 x.ver.minor, .int .i64 x.ver.patch]] (grow (redrawn wr d) os) fun e w'' => e = .returned (.bool (verOk x.ver)) ∧ ∃ p : Regrown, w'' = grow (redrawn wr p.d) p.os) := qcall (w := wr) (fun W hW => refVerMay_any _ _ _ W)
    generalize verOk x.ver = v2 at *
    generalize x.name = nm at *
    generalize nameB nm = v1 at *
    have r_c0 := cell_regrown c0
    have r_c1 := cell_regrown c1
    have r_c2 := cell_regrown c2
    have r_c3 := cell_regrown c3
    cases v1 with
    | false =>
      have Hc3 := Hc1
      have Hr : Hid (r = false) := by unfold Hid; rw [Hst.out]; first | rfl | simp
      clear Hst
      go_wp2_with fail
      refine wp_region_qb (by kernel_rfl) (by kernel_rfl) ?_
      repeat (go_big_quiet_step (first | (with_reducible exact Hc1.out _ _) | (with_reducible exact Hc2.out _ _) | (with_reducible exact Hc3.out _ _)))
      refine wpQuiet_nil ?_
      intro w1 B1
      go_wp2_with fail
      go_ret
      exact ⟨ret_bL Hr.out.symm, bot hbel B1⟩
    | true =>
    cases v2 with
    | false =>
      have Hc3 := Hc1
      have Hr : Hid (r = false) := by unfold Hid; rw [Hst.out]; first | rfl | simp
      clear Hst
      go_wp2_with fail
      refine wp_region_qb (by kernel_rfl) (by kernel_rfl) ?_
      repeat (go_big_quiet_step (first | (with_reducible exact Hc1.out _ _) | (with_reducible exact Hc2.out _ _) | (with_reducible exact Hc3.out _ _)))
      refine wpQuiet_nil ?_
      intro w1 B1
      go_wp2_with fail
      go_ret
      exact ⟨ret_bL Hr.out.symm, bot hbel B1⟩
    | true =>
    by_cases hk00 : k = 0
    · have hkz : decide (0 < k) = false := by simp [hk00]
      have Hnx' : Hid (r = ((risesGo (prevAt (pinNames l) (k + 1)) ((pinNames l).drop (k + 1)) && pinsOk (l.drop (k + 1))) && decide (n ≤ 128))) := by
        unfold Hid
        rw [Hst.out]
        rw [show prevAt _ k = none from by rw [hk00]; rfl]
        simp [behind]
      have Hc3 := Hc1
      clear Hst hk00
      go_wp2_with fail
      refine wp_region_qb (by kernel_rfl) (by kernel_rfl) ?_
      repeat (go_big_quiet_step (first | (with_reducible exact Hc1.out _ _) | (with_reducible exact Hc2.out _ _) | (with_reducible exact Hc3.out _ _)))
      refine wpQuiet_nil ?_
      intro w1 B1
      go_wp2_with fail
      go_roundw
      case rel => exact ⟨_, by omega, by go_num, Hnx', bot hbel B1⟩
      case measure => simp [intOf]; omega
    · obtain ⟨q, rfl⟩ : ∃ q, k = q + 1 := ⟨k - 1, by omega⟩
      clear hk00
      have hqx : q < l.length := by omega
      obtain ⟨y, hy⟩ : ∃ y, l[q]? = some y := ⟨_, List.getElem?_eq_getElem hqx⟩
      have hyn : (pinNames l)[q]? = some y.name := by unfold pinNames; rw [List.getElem?_map, hy]; rfl
      have Hpq : Hid (prevAt (pinNames l) (q + 1) = some y.name) := hyn
      obtain ⟨b', o', cs', hA', _, hbl', hh', hcell'⟩ := hlw2.out.elem hy
      injection hA' with hA'
      injection hA' with hb' ho' _
      subst hb' ho'
      obtain ⟨hcs', hnm', _⟩ := hh'
      have e0 := hcell' 0 _ (by rw [hcs']; rfl)
      simp only [rPin, Nat.add_zero] at e0
      have hw1 : IntKind.i64.wrap ((q : Int) + 1 - 1) = (q : Int) := (IntWalk.i64_in _ ⟨by omega, by omega⟩).trans (by omega)
      have hw2 : IntKind.i64.wrap (q : Int) = (q : Int) := IntWalk.i64_in _ ⟨by omega, by omega⟩
      have hq0 : (0 : Int) ≤ (q : Int) := by omega
      have hqn : (q : Int) < (n : Int) := by omega
      have hq1 : (0 : Int) < (q : Int) + 1 := by omega
      have hq2 : (q : Int) + 1 < (n : Int) := by omega
      have hq3 : (0 : Int) ≤ (q : Int) + 1 := by omega
      have Hc3 := Lib.hid (qcall (w := wr) (fun W hW => refLess_any y.name nm hnm' hnm W))
      have r_e0 := cell_regrown e0
      clear hcell' hlw2 hcs'
      generalize y.name = pn at *
      have Hst2 : Hid (r = ((((behind (some pn) nm) && risesGo (prevAt (pinNames l) (q + 1 + 1)) ((pinNames l).drop (q + 1 + 1))) && pinsOk (l.drop (q + 1 + 1))) && decide (n ≤ 128))) := by
        unfold Hid
        rw [Hst.out, Hpq.out]
        simp
      clear Hst
      have Hbl : Hid (behind (some pn) nm = lessB pn nm) := rfl
      cases hls : lessB pn nm with
      | false =>
        rw [hls] at Hc3
        have Hr : Hid (r = false) := by unfold Hid; rw [Hst2.out, Hbl.out, hls]; rfl
        clear Hst2 hls Hbl
        go_wp2_with fail
        refine wp_region_qb (by kernel_rfl) (by kernel_rfl) ?_
        repeat (go_big_quiet_step (first | (with_reducible exact Hc1.out _ _) | (with_reducible exact Hc2.out _ _) | (with_reducible exact Hc3.out _ _)))
        refine wpQuiet_nil ?_
        intro w1 B1
        go_wp2_with fail
        go_ret
        exact ⟨ret_bL Hr.out.symm, bot hbel B1⟩
      | true =>
        rw [hls] at Hc3
        have Hnx' : Hid (r = ((risesGo (prevAt (pinNames l) (q + 1 + 1)) ((pinNames l).drop (q + 1 + 1)) && pinsOk (l.drop (q + 1 + 1))) && decide (n ≤ 128))) := by
          unfold Hid
          rw [Hst2.out, Hbl.out, hls, Bool.true_and]
        clear Hst2 hls Hbl
        go_wp2_with fail
        refine wp_region_qb (by kernel_rfl) (by kernel_rfl) ?_
        repeat (go_big_quiet_step (first | (with_reducible exact Hc1.out _ _) | (with_reducible exact Hc2.out _ _) | (with_reducible exact Hc3.out _ _)))
        refine wpQuiet_nil ?_
        intro w1 B1
        go_wp2_with fail
        go_roundw
        case rel => exact ⟨_, by omega, by go_num, Hnx', bot hbel B1⟩
        case measure => simp [intOf]; omega

set_option maxHeartbeats 3200000 in
set_option maxRecDepth 100000 in
theorem refEdges07_any (A : Option Addr) (n c : Nat) (l : List Edge) (many : Nat) (hmany : many ≤ 1000000000) (w : World) (S : Nat → Prop) (hl : SlV rEdge w S l (.slice A n c)) :
    Calls Tryz.prog 154 #[.slice A n c, .int .i64 (many : Int)] w fun e w' => e = .returned (.bool (risesB (edgeNames l) && edgesOk many l)) ∧ Below w.heap.size w w' := by
  have hnx := hl.n_eq
  have hcc := hl.cap_le
  unfold maxLen at hcc
  have hn63 : n ≤ 9223372036854775807 := by omega
  have hl' := hl.more (S' := fun b => b < w.heap.size) fun b _ hlt => hlt
  have Hs : Hid ((risesB (edgeNames l) && edgesOk many l) = ((risesGo (prevAt (edgeNames l) 0) ((edgeNames l).drop 0) && edgesOk many (l.drop 0)) && decide (n ≤ 128))) := by
    unfold Hid risesB
    rw [show (edgeNames l).length = n from by unfold edgeNames; rw [List.length_map]; exact hnx.symm]
    show _ = ((risesGo none (edgeNames l) && edgesOk many (l)) && decide (n ≤ 128))
    cases risesGo none (edgeNames l) <;> cases edgesOk many (l) <;> cases decide (n ≤ 128) <;> rfl
  have Hnx := Lib.hid hnx
  clear hl hcc hnx
  generalize (risesB (edgeNames l) && edgesOk many l) = r at *
  go_enter Tryz.func154, Tryz.ntmps154
  go_wp2_with fail
  go_loopw [5] (fun i wr => ∃ (k : Nat), k ≤ n ∧ i = .int .i64 k ∧ Hid (r = ((risesGo (prevAt (edgeNames l) k) ((edgeNames l).drop k) && edgesOk many (l.drop k)) && decide (n ≤ 128))) ∧ Below w.heap.size w wr) (fun i _ => n - (intOf i).toNat)
  case atStart => exact ⟨0, Nat.zero_le _, rfl, Hs, Below.refl _ _⟩
  case round =>
    clear Hs
    obtain ⟨k, hk, rfl, Hm, hbel⟩ := hrel
    have hbw := hbel.size
    by_cases hlt : k < n
    case neg =>
      obtain rfl : k = n := by omega
      have hI : ¬ (k : Int) < (k : Int) := by omega
      have Hr : Hid (r = decide (k ≤ 128)) := by
        unfold Hid
        rw [Hm.out, risesGo_done (by unfold edgeNames; rw [List.length_map, ← Hnx.out]; exact Nat.le_refl _), List.drop_eq_nil_of_le (by rw [← Hnx.out]; exact Nat.le_refl _)]
        rfl
      clear Hm
      by_cases h1 : k ≤ 128
      · have h1I : (k : Int) ≤ 128 := by omega
        rw [decide_eq_true h1] at Hr
        go_wp2_with fail
        go_ret
        exact ⟨ret_bL Hr.out.symm, hbel⟩
      · have h1I : ¬ (k : Int) ≤ 128 := by omega
        rw [decide_eq_false h1] at Hr
        go_wp2_with fail
        go_ret
        exact ⟨ret_bL Hr.out.symm, hbel⟩
    have hkx : k < l.length := by rw [← Hnx.out]; exact hlt
    have hlw := hl'.below hbel (fun b hb => hb)
    have hlw2 := Lib.hid hlw
    obtain ⟨x, hx⟩ : ∃ x, l[k]? = some x := ⟨_, List.getElem?_eq_getElem hkx⟩
    have hxn : (edgeNames l)[k]? = some x.label := by unfold edgeNames; rw [List.getElem?_map, hx]; rfl
    have h3 := Hm.out
    rw [risesGo_step hxn, edgesOk_step hx] at h3
    have Hst := Lib.hid h3
    clear h3 Hm
    obtain ⟨b, o, cs, hA, hSb, hbl, hh, hcell⟩ := hlw.elem hx
    subst hA
    obtain ⟨hcs, hnm, _⟩ := hh
    have c0 := hcell 0 _ (by rw [hcs]; rfl)
    have c1 := hcell 1 _ (by rw [hcs]; rfl)
    simp only [rEdge, Nat.add_zero] at c0 c1
    clear hcell hlw hcs
    have hk0 : (0 : Int) ≤ (k : Int) := by omega
    have hkn : (k : Int) < (n : Int) := by omega
    have Hc1 : Hid (∀ d os, Calls Tryz.prog 88 #[.string x.label] (grow (redrawn wr d) os) fun e w'' => e = .returned (.bool (nameB x.label)) ∧ ∃ p : Regrown, w'' = grow (redrawn wr p.d) p.os) := qcall (w := wr) (fun W hW => (refName_any x.label hnm W).mono fun e w' ⟨he, hw⟩ => ⟨he, hw ▸ Below.refl _ _⟩)
    have Hc2 := Hc1
    have Hv2 : Hid ((decide (1 ≤ x.to) && decide (x.to < many)) = (decide (1 ≤ x.to) && decide (x.to < (many : Int)))) := rfl
    generalize x.to = tz at *
    generalize x.label = nm at *
    generalize nameB nm = v1 at *
    have r_c0 := cell_regrown c0
    have r_c1 := cell_regrown c1
    cases v1 with
    | false =>
      have Hc3 := Hc1
      have Hr : Hid (r = false) := by unfold Hid; rw [Hst.out]; first | rfl | simp
      clear Hst
      go_wp2_with fail
      refine wp_region_qb (by kernel_rfl) (by kernel_rfl) ?_
      repeat (go_big_quiet_step (first | (with_reducible exact Hc1.out _ _) | (with_reducible exact Hc2.out _ _) | (with_reducible exact Hc3.out _ _)))
      refine wpQuiet_nil ?_
      intro w1 B1
      go_wp2_with fail
      go_ret
      exact ⟨ret_bL Hr.out.symm, bot hbel B1⟩
    | true =>
    by_cases ha : 1 ≤ tz
    case neg =>
      have hab : ¬ (1 : Int) ≤ tz := ha
      have hac : decide (tz < 1) = true := decide_eq_true (by omega)
      have Hc3 := Hc1
      have Hr : Hid (r = false) := by unfold Hid; rw [Hst.out, decide_eq_false ha]; first | rfl | simp
      clear Hst
      go_wp2_with fail
      refine wp_region_qb (by kernel_rfl) (by kernel_rfl) ?_
      repeat (go_big_quiet_step (first | (with_reducible exact Hc1.out _ _) | (with_reducible exact Hc2.out _ _) | (with_reducible exact Hc3.out _ _)))
      refine wpQuiet_nil ?_
      intro w1 B1
      go_wp2_with fail
      go_ret
      exact ⟨ret_bL Hr.out.symm, bot hbel B1⟩
    by_cases hb : tz < (many : Int)
    case neg =>
      have hac : decide (tz < 1) = false := decide_eq_false (by omega)
      have hbc : decide ((many : Int) ≤ tz) = true := decide_eq_true (by omega)
      have Hc3 := Hc1
      have Hr : Hid (r = false) := by unfold Hid; rw [Hst.out, decide_eq_false hb]; first | rfl | simp
      clear Hst
      go_wp2_with fail
      refine wp_region_qb (by kernel_rfl) (by kernel_rfl) ?_
      repeat (go_big_quiet_step (first | (with_reducible exact Hc1.out _ _) | (with_reducible exact Hc2.out _ _) | (with_reducible exact Hc3.out _ _)))
      refine wpQuiet_nil ?_
      intro w1 B1
      go_wp2_with fail
      go_ret
      exact ⟨ret_bL Hr.out.symm, bot hbel B1⟩
    have hac : decide (tz < 1) = false := decide_eq_false (by omega)
    have hbc : decide ((many : Int) ≤ tz) = false := decide_eq_false (by omega)
    by_cases hk00 : k = 0
    · have hkz : decide (0 < k) = false := by simp [hk00]
      have Hnx' : Hid (r = ((risesGo (prevAt (edgeNames l) (k + 1)) ((edgeNames l).drop (k + 1)) && edgesOk many (l.drop (k + 1))) && decide (n ≤ 128))) := by
        unfold Hid
        rw [Hst.out, decide_eq_true ha, decide_eq_true hb]
        rw [show prevAt _ k = none from by rw [hk00]; rfl]
        simp [behind]
      have Hc3 := Hc1
      clear Hst hk00
      go_wp2_with fail
      refine wp_region_qb (by kernel_rfl) (by kernel_rfl) ?_
      repeat (go_big_quiet_step (first | (with_reducible exact Hc1.out _ _) | (with_reducible exact Hc2.out _ _) | (with_reducible exact Hc3.out _ _)))
      refine wpQuiet_nil ?_
      intro w1 B1
      go_wp2_with fail
      go_roundw
      case rel => exact ⟨_, by omega, by go_num, Hnx', bot hbel B1⟩
      case measure => simp [intOf]; omega
    · obtain ⟨q, rfl⟩ : ∃ q, k = q + 1 := ⟨k - 1, by omega⟩
      clear hk00
      have hqx : q < l.length := by omega
      obtain ⟨y, hy⟩ : ∃ y, l[q]? = some y := ⟨_, List.getElem?_eq_getElem hqx⟩
      have hyn : (edgeNames l)[q]? = some y.label := by unfold edgeNames; rw [List.getElem?_map, hy]; rfl
      have Hpq : Hid (prevAt (edgeNames l) (q + 1) = some y.label) := hyn
      obtain ⟨b', o', cs', hA', _, hbl', hh', hcell'⟩ := hlw2.out.elem hy
      injection hA' with hA'
      injection hA' with hb' ho' _
      subst hb' ho'
      obtain ⟨hcs', hnm', _⟩ := hh'
      have e0 := hcell' 0 _ (by rw [hcs']; rfl)
      simp only [rEdge, Nat.add_zero] at e0
      have hw1 : IntKind.i64.wrap ((q : Int) + 1 - 1) = (q : Int) := (IntWalk.i64_in _ ⟨by omega, by omega⟩).trans (by omega)
      have hw2 : IntKind.i64.wrap (q : Int) = (q : Int) := IntWalk.i64_in _ ⟨by omega, by omega⟩
      have hq0 : (0 : Int) ≤ (q : Int) := by omega
      have hqn : (q : Int) < (n : Int) := by omega
      have hq1 : (0 : Int) < (q : Int) + 1 := by omega
      have hq2 : (q : Int) + 1 < (n : Int) := by omega
      have hq3 : (0 : Int) ≤ (q : Int) + 1 := by omega
      have Hc3 := Lib.hid (qcall (w := wr) (fun W hW => refLess_any y.label nm hnm' hnm W))
      have r_e0 := cell_regrown e0
      clear hcell' hlw2 hcs'
      generalize y.label = pn at *
      have Hst2 : Hid (r = ((((behind (some pn) nm) && risesGo (prevAt (edgeNames l) (q + 1 + 1)) ((edgeNames l).drop (q + 1 + 1))) && edgesOk many (l.drop (q + 1 + 1))) && decide (n ≤ 128))) := by
        unfold Hid
        rw [Hst.out, Hpq.out, decide_eq_true ha, decide_eq_true hb]
        simp
      clear Hst
      have Hbl : Hid (behind (some pn) nm = lessB pn nm) := rfl
      cases hls : lessB pn nm with
      | false =>
        rw [hls] at Hc3
        have Hr : Hid (r = false) := by unfold Hid; rw [Hst2.out, Hbl.out, hls]; rfl
        clear Hst2 hls Hbl
        go_wp2_with fail
        refine wp_region_qb (by kernel_rfl) (by kernel_rfl) ?_
        repeat (go_big_quiet_step (first | (with_reducible exact Hc1.out _ _) | (with_reducible exact Hc2.out _ _) | (with_reducible exact Hc3.out _ _)))
        refine wpQuiet_nil ?_
        intro w1 B1
        go_wp2_with fail
        go_ret
        exact ⟨ret_bL Hr.out.symm, bot hbel B1⟩
      | true =>
        rw [hls] at Hc3
        have Hnx' : Hid (r = ((risesGo (prevAt (edgeNames l) (q + 1 + 1)) ((edgeNames l).drop (q + 1 + 1)) && edgesOk many (l.drop (q + 1 + 1))) && decide (n ≤ 128))) := by
          unfold Hid
          rw [Hst2.out, Hbl.out, hls, Bool.true_and]
        clear Hst2 hls Hbl
        go_wp2_with fail
        refine wp_region_qb (by kernel_rfl) (by kernel_rfl) ?_
        repeat (go_big_quiet_step (first | (with_reducible exact Hc1.out _ _) | (with_reducible exact Hc2.out _ _) | (with_reducible exact Hc3.out _ _)))
        refine wpQuiet_nil ?_
        intro w1 B1
        go_wp2_with fail
        go_roundw
        case rel => exact ⟨_, by omega, by go_num, Hnx', bot hbel B1⟩
        case measure => simp [intOf]; omega
end Go.Proofs.YthbnmehbhpakaaaGreatDoor
