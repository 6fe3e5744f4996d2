/-
  The document's placer: the edge of a label, what stands beside a node, do its names rise: walked.
-/
import Derived.Test.YtminjjdnmpaaoaaGreatDoorPp29
set_option autoImplicit false
set_option relaxedAutoImplicit false
set_option linter.unusedVariables false
set_option linter.unusedSimpArgs false
namespace Go.Proofs.YtminjjdnmpaaoaaGreatDoor
open Go.Rows Go.RowKit Go.Shelf Go.Sort

set_option maxHeartbeats 1600000 in
set_option maxRecDepth 100000 in
theorem refEdge_any (nm : ByteArray) (v1 v2 v3 : Int) (xA : Option Addr) (xn xc : Nat) (A : Option Addr) (n c : Nat) (xs : List Edge) (s : ByteArray) (w : World) (S : Nat → Prop) (hx : SlV rEdge w S xs (.slice A n c)) :
    Calls Tryz.prog 96 #[.agg #[.string nm, .int .i64 v1, .int .i64 v2, .int .i64 v3, .slice xA xn xc, .slice A n c], .string s] w fun e w' => e = .returned (.int .i64 (edgeI xs s)) ∧ Below w.heap.size w w' := by
  have hnx := hx.n_eq
  have hcx := hx.cap_le
  unfold maxLen at hcx
  have hn63 : n ≤ 9223372036854775807 := by omega
  have Hx := Lib.hid hx
  have Hend : Hid (edgeIx xs s = (edgeIx (xs.drop 0) s).map (· + 0)) := by unfold Hid; rw [List.drop_zero]; cases edgeIx xs s <;> rfl
  have HR : Hid (∀ r, edgeIx xs s = r → edgeI xs s = match r with | none => -1 | some k => (k : Int)) := by rintro r rfl; rfl
  have Hnx := Lib.hid hnx; clear hnx
  clear hcx hx
  generalize edgeI xs s = R at *
  go_enter Tryz.func96, Tryz.ntmps96
  go_upto_region 1 with (fail)
  obtain ⟨w1, hw1⟩ : ∃ w1, w1 = w.alloc (.cells #[.string nm, .int .i64 v1, .int .i64 v2, .int .i64 v3, .slice xA xn xc, .slice A n c] 58) := ⟨_, rfl⟩
  have hq1 : w1.heap[w.heap.size]? = some (.cells #[.string nm, .int .i64 v1, .int .i64 v2, .int .i64 v3, .slice xA xn xc, .slice A n c] 58 (0, 0)) := by rw [hw1]; exact heap_new _ _
  have hB1 : Below w.heap.size w w1 := by rw [hw1]; exact bal (Below.refl _ _) _
  rw [← hw1]
  obtain ⟨QB, hQB⟩ : ∃ k, k = w.heap.size := ⟨_, rfl⟩
  rw [← hQB] at hq1 ⊢
  have Hq := Lib.hid (cell_of_row _ _ 5 _ _ _ hq1)
  have HB1 := Lib.hid hB1
  clear hw1 hQB hq1 hB1
  go_wp2_with fail
  go_loopw [5] (fun i wr => ∃ k : Nat, k ≤ n ∧ i = .int .i64 k ∧ Hid (edgeIx xs s = (edgeIx (xs.drop k) s).map (· + k)) ∧ Hid (wr = w1)) (fun i _ => n - (intOf i).toNat)
  case atStart => exact ⟨0, Nat.zero_le _, rfl, Hend, rfl⟩
  case round =>
    obtain ⟨k, hk, rfl, heq, hwr⟩ := hrel
    have HBr : Hid (Below w.heap.size w wr) := by unfold Hid; rw [hwr.out]; exact HB1.out
    have q5 : wr.cell? ⟨QB, 5, none⟩ = some (.slice A n c) := by rw [hwr.out]; exact Hq.out
    have hk0 : (0 : Int) ≤ (k : Int) := by omega
    by_cases hlt : k < n
    case neg =>
      have He : Hid (R = -1) := by
        have h := heq.out
        rw [List.drop_eq_nil_of_le (by have := Hnx.out; omega)] at h
        exact HR.out _ h
      have hI : ¬ (k : Int) < (n : Int) := by omega
      clear heq
      go_wp2_with fail
      go_ret
      exact ⟨ret_int He.out.symm, HBr.out⟩
    have hkn : (k : Int) < (n : Int) := by omega
    obtain ⟨x, hx⟩ : ∃ x, xs[k]? = some x := ⟨_, List.getElem?_eq_getElem (by have := Hnx.out; omega)⟩
    obtain ⟨b, o, cs, rfl, _, hb1, hh, hcell⟩ := (Hx.out.belowSize HBr.out).elem hx
    obtain ⟨rfl, _⟩ := hh
    have Hat := Lib.hid (edgeIx_at hx s)
    have c0 := hcell 0 _ rfl
    simp only [rEdge, Nat.add_zero] at c0
    clear hcell hx
    generalize x.label = y0 at *
    by_cases hs : y0 = s
    · have hb2 := beq_true hs
      have He : Hid (R = (k : Int)) := by
        unfold Hid
        have h := heq.out
        rw [Hat.out, if_pos hs] at h
        have h2 := HR.out _ h
        simpa using h2
      clear Hat heq hs
      go_wp2_with fail
      go_ret
      exact ⟨ret_int He.out.symm, HBr.out⟩
    · have hb2 := beq_false hs
      have He : Hid (edgeIx xs s = (edgeIx (xs.drop (k + 1)) s).map (· + (k + 1))) := by
        unfold Hid
        rw [heq.out, Hat.out, if_neg hs]
        cases edgeIx (xs.drop (k + 1)) s with
        | none => rfl
        | some j => simp only [Option.map_some]; congr 1; omega
      clear Hat heq hs
      go_wp2_with fail
      go_roundw
      case rel => exact ⟨k + 1, by omega, by go_num, He, hwr⟩
      case measure => simp [intOf]; omega

set_option maxHeartbeats 1600000 in
set_option maxRecDepth 100000 in
theorem refBeside_any (nm : ByteArray) (v1 v2 v3 : Int) (A : Option Addr) (n c : Nat) (eA : Option Addr) (en ec : Nat) (xs : List Pin) (s : ByteArray) (w : World) (S : Nat → Prop) (hx : SlV rPin w S xs (.slice A n c)) :
    Calls Tryz.prog 56 #[.agg #[.string nm, .int .i64 v1, .int .i64 v2, .int .i64 v3, .slice A n c, .slice eA en ec], .string s] w fun e w' => e = .returned (.bool (xs.any fun x => decide (x.name = s))) ∧ Below w.heap.size w w' := by
  have hnx := hx.n_eq
  have hcx := hx.cap_le
  unfold maxLen at hcx
  have hn63 : n ≤ 9223372036854775807 := by omega
  have Hx := Lib.hid hx
  have Hend : Hid ((xs.any fun x => decide (x.name = s)) = (xs.drop 0).any fun x => decide (x.name = s)) := rfl
  have Hnx := Lib.hid hnx; clear hnx
  clear hcx hx
  generalize (xs.any fun x => decide (x.name = s)) = R at *
  go_enter Tryz.func56, Tryz.ntmps56
  go_upto_region 1 with (fail)
  obtain ⟨w1, hw1⟩ : ∃ w1, w1 = w.alloc (.cells #[.string nm, .int .i64 v1, .int .i64 v2, .int .i64 v3, .slice A n c, .slice eA en ec] 58) := ⟨_, rfl⟩
  have hq1 : w1.heap[w.heap.size]? = some (.cells #[.string nm, .int .i64 v1, .int .i64 v2, .int .i64 v3, .slice A n c, .slice eA en ec] 58 (0, 0)) := by rw [hw1]; exact heap_new _ _
  have hB1 : Below w.heap.size w w1 := by rw [hw1]; exact bal (Below.refl _ _) _
  rw [← hw1]
  obtain ⟨QB, hQB⟩ : ∃ k, k = w.heap.size := ⟨_, rfl⟩
  rw [← hQB] at hq1 ⊢
  have Hq := Lib.hid (cell_of_row _ _ 4 _ _ _ hq1)
  have HB1 := Lib.hid hB1
  clear hw1 hQB hq1 hB1
  go_wp2_with fail
  go_loopw [5] (fun i wr => ∃ k : Nat, k ≤ n ∧ i = .int .i64 k ∧ Hid (R = (xs.drop k).any fun x => decide (x.name = s)) ∧ Hid (wr = w1)) (fun i _ => n - (intOf i).toNat)
  case atStart => exact ⟨0, Nat.zero_le _, rfl, Hend, rfl⟩
  case round =>
    obtain ⟨k, hk, rfl, heq, hwr⟩ := hrel
    have HBr : Hid (Below w.heap.size w wr) := by unfold Hid; rw [hwr.out]; exact HB1.out
    have q4 : wr.cell? ⟨QB, 4, none⟩ = some (.slice A n c) := by rw [hwr.out]; exact Hq.out
    have hk0 : (0 : Int) ≤ (k : Int) := by omega
    by_cases hlt : k < n
    case neg =>
      have He : Hid (R = false) := by unfold Hid; rw [heq.out, List.drop_eq_nil_of_le (by have := Hnx.out; omega)]; rfl
      have hI : ¬ (k : Int) < (n : Int) := by omega
      clear heq
      go_wp2_with fail
      go_ret
      exact ⟨ret_bP He.out.symm, HBr.out⟩
    have hkn : (k : Int) < (n : Int) := by omega
    obtain ⟨x, hx⟩ : ∃ x, xs[k]? = some x := ⟨_, List.getElem?_eq_getElem (by have := Hnx.out; omega)⟩
    obtain ⟨b, o, cs, rfl, _, hb1, hh, hcell⟩ := (Hx.out.belowSize HBr.out).elem hx
    obtain ⟨rfl, _⟩ := hh
    have Hat := Lib.hid (heq.out.trans (any_dropP (fun x : Pin => decide (x.name = s)) hx))
    have c0 := hcell 0 _ rfl
    simp only [rPin, Nat.add_zero] at c0
    clear hcell hx heq
    generalize x.name = y0 at *
    by_cases hs : y0 = s
    · have hb2 := beq_true hs
      have He : Hid (R = true) := by unfold Hid; rw [Hat.out, decide_eq_true hs]; rfl
      clear Hat hs
      go_wp2_with fail
      go_ret
      exact ⟨ret_bP He.out.symm, HBr.out⟩
    · have hb2 := beq_false hs
      have He : Hid (R = (xs.drop (k + 1)).any fun x => decide (x.name = s)) := by unfold Hid; rw [Hat.out, decide_eq_false hs]; rfl
      clear Hat hs
      go_wp2_with fail
      go_roundw
      case rel => exact ⟨k + 1, by omega, by go_num, He, hwr⟩
      case measure => simp [intOf]; omega

set_option maxHeartbeats 6400000 in
set_option maxRecDepth 100000 in
theorem refRises_any (nm : ByteArray) (v1 v2 v3 : Int) (A : Option Addr) (n c : Nat) (eA : Option Addr) (en ec : Nat) (xs : List Pin) (ys : List Edge) (w : World) (S : Nat → Prop) (hx : SlV rPin w S xs (.slice A n c)) (hy : SlV rEdge w S ys (.slice eA en ec)) :
    Calls Tryz.prog 95 #[.agg #[.string nm, .int .i64 v1, .int .i64 v2, .int .i64 v3, .slice A n c, .slice eA en ec]] w fun e w' => e = .returned (.bool (risesGo none (pinNames xs) && risesGo none (edgeNames ys))) ∧ Below w.heap.size w w' := by
  have hnx := hx.n_eq
  have hny := hy.n_eq
  have hn63 := slv_len hx
  have hm63 := slv_len hy
  have HxA := Lib.hid hx
  have HxB := Lib.hid hy
  have HlA : Hid ((pinNames xs).length = n) := by unfold Hid pinNames; rw [List.length_map, hnx]
  have HlB : Hid ((edgeNames ys).length = en) := by unfold Hid edgeNames; rw [List.length_map, hny]
  have HnA := Lib.hid hnx
  have HnB := Lib.hid hny
  obtain ⟨PA, hPA⟩ : ∃ PA, PA = risesGo none (pinNames xs) := ⟨_, rfl⟩
  obtain ⟨PB, hPB⟩ : ∃ PB, PB = risesGo none (edgeNames ys) := ⟨_, rfl⟩
  have HA0 : Hid (PA = risesGo (prevAt (pinNames xs) 0) ((pinNames xs).drop 0)) := hPA
  have HB0 : Hid (PB = risesGo (prevAt (edgeNames ys) 0) ((edgeNames ys).drop 0)) := hPB
  obtain ⟨R, hR⟩ : ∃ R, R = (PA && PB) := ⟨_, rfl⟩
  rw [← hPA, ← hPB, ← hR]
  have HR := Lib.hid hR
  clear hx hy hnx hny hPA hPB hR
  go_enter Tryz.func95, Tryz.ntmps95
  go_upto_region 1 with (fail)
  obtain ⟨w1, hw1⟩ : ∃ w1, w1 = w.alloc (.cells #[.string nm, .int .i64 v1, .int .i64 v2, .int .i64 v3, .slice A n c, .slice eA en ec] 58) := ⟨_, rfl⟩
  have hq1 : w1.heap[w.heap.size]? = some (.cells #[.string nm, .int .i64 v1, .int .i64 v2, .int .i64 v3, .slice A n c, .slice eA en ec] 58 (0, 0)) := by rw [hw1]; exact heap_new _ _
  have hB1 : Below w.heap.size w w1 := by rw [hw1]; exact bal (Below.refl _ _) _
  rw [← hw1]
  obtain ⟨QB, hQB⟩ : ∃ k, k = w.heap.size := ⟨_, rfl⟩
  rw [← hQB] at hq1 ⊢
  have Hq : Hid (∀ W, Below w1.heap.size w1 W → W.cell? ⟨QB, 4, none⟩ = some (.slice A n c) ∧ W.cell? ⟨QB, 5, none⟩ = some (.slice eA en ec)) := fun W hW => by
    have h := (hW.block _ (Array.getElem?_eq_some_iff.1 hq1).1).trans hq1
    exact ⟨cell_of_row _ _ 4 _ _ _ h, cell_of_row _ _ 5 _ _ _ h⟩
  have HB1 := Lib.hid hB1
  clear hw1 hQB hq1 hB1
  go_wp2_with fail
  go_loopw [3] (fun i wr => ∃ k : Nat, k ≤ n ∧ i = .int .i64 k ∧ Hid (PA = risesGo (prevAt (pinNames xs) k) ((pinNames xs).drop k)) ∧ Hid (Below w1.heap.size w1 wr)) (fun i _ => n - (intOf i).toNat)
  case atStart => exact ⟨0, Nat.zero_le _, rfl, HA0, Below.refl _ _⟩
  case round =>
    obtain ⟨k, hk, rfl, Hm, hbel⟩ := hrel
    have HBr := Lib.hid (bot HB1.out hbel.out)
    have q4 := (Hq.out wr hbel.out).1
    have hk0 : (0 : Int) ≤ (k : Int) := by omega
    by_cases hlt : k < n
    case neg =>
      have hI : ¬ (k : Int) < (n : Int) := by omega
      have Hd : Hid (PA = true) := by unfold Hid; rw [Hm.out, risesGo_done (by rw [HlA.out]; omega)]
      clear Hm
      have HR2 : Hid (R = PB) := by unfold Hid; rw [HR.out, Hd.out, Bool.true_and]
      clear HR Hd
      have hbe := hbel
      clear hbel HBr
      generalize wr = wa at *
      go_wp2_with fail
      go_loopw [5] (fun i wr => ∃ k : Nat, k ≤ en ∧ i = .int .i64 k ∧ Hid (PB = risesGo (prevAt (edgeNames ys) k) ((edgeNames ys).drop k)) ∧ Hid (Below w1.heap.size w1 wr)) (fun i _ => en - (intOf i).toNat)
      case atStart => exact ⟨0, Nat.zero_le _, rfl, HB0, hbe⟩
      case round =>
        obtain ⟨k, hk, rfl, Hm, hbel⟩ := hrel
        have HBr := Lib.hid (bot HB1.out hbel.out)
        have q5 := (Hq.out wr hbel.out).2
        have hk0 : (0 : Int) ≤ (k : Int) := by omega
        by_cases hlt : k < en
        case neg =>
          have hI : ¬ (k : Int) < (en : Int) := by omega
          have Hd : Hid (PB = true) := by unfold Hid; rw [Hm.out, risesGo_done (by rw [HlB.out]; omega)]
          clear Hm
          go_wp2_with fail
          go_ret
          exact ⟨ret_bP (by rw [HR2.out, Hd.out]), HBr.out⟩
        case pos =>
        have hkI : (k : Int) < (en : Int) := by omega
        obtain ⟨x, hx⟩ : ∃ x, ys[k]? = some x := ⟨_, List.getElem?_eq_getElem (by have := HnB.out; omega)⟩
        obtain ⟨b, o, cs, hA, _, hb1, hh, hcell⟩ := (HxB.out.belowSize HBr.out).elem hx
        subst hA
        obtain ⟨rfl, hnm, _⟩ := hh
        have c0 := hcell 0 _ rfl
        simp only [rEdge, Nat.add_zero] at c0
        have hs : (edgeNames ys)[k]? = some x.label := by unfold edgeNames; rw [List.getElem?_map, hx]; rfl
        have Hst := Lib.hid (Hm.out.trans (risesGo_step hs))
        have Hnm : Hid (∀ W, Calls Tryz.prog 97 #[.string x.label] W fun e w' => e = .returned (.bool (nameB x.label)) ∧ W = w') := fun W => refName_any x.label hnm W
        clear Hm hs
        generalize x.label = y0 at *
        cases hnb : nameB y0 with
        | false =>
          have Hr : Hid (PB = false) := by unfold Hid; rw [Hst.out, hnb]; rfl
          rw [hnb] at Hnm
          clear Hst hnb hcell
          go_wp2_with fail
          refine (Hnm.out wr).mono ?_
          rintro e w3 ⟨rfl, rfl⟩
          go_wp2_with fail
          have r_q5 := cell_regrown q5
          have r_c0 := cell_regrown c0
          go_wp2_with fail
          refine wp_region_qb (by kernel_rfl) (by kernel_rfl) ?_
          repeat (go_big_quiet_step (first | fail))
          refine wpQuiet_nil ?_
          intro w4 B4
          have HB4 := Lib.hid (bot HBr.out B4)
          go_wp2_with fail
          go_ret
          exact ⟨ret_bP (by rw [HR2.out, Hr.out]), HB4.out⟩
        | true =>
        rw [hnb] at Hnm
        by_cases hk00 : k = 0
        case pos =>
          have Hnx2 : Hid (PB = risesGo (prevAt (edgeNames ys) (k + 1)) ((edgeNames ys).drop (k + 1))) := by unfold Hid; rw [Hst.out, hnb, show prevAt (edgeNames ys) k = none by rw [hk00]; rfl]; rfl
          have hng : ¬ (0 : Int) < (k : Int) := by omega
          have hngd : decide (0 < k) = false := decide_eq_false (by omega)
          clear Hst hnb hk00 hcell
          go_wp2_with fail
          refine (Hnm.out wr).mono ?_
          rintro e w3 ⟨rfl, rfl⟩
          go_wp2_with fail
          have r_q5 := cell_regrown q5
          have r_c0 := cell_regrown c0
          go_wp2_with fail
          refine wp_region_qb (by kernel_rfl) (by kernel_rfl) ?_
          repeat (go_big_quiet_step (first | fail))
          refine wpQuiet_nil ?_
          intro w4 B4
          have HB4 := Lib.hid (bot hbel.out B4)
          go_wp2_with fail
          go_roundw
          case rel => exact ⟨k + 1, by omega, by go_num, Hnx2, HB4⟩
          case measure => simp [intOf]; omega
        case neg =>
          obtain ⟨j, rfl⟩ : ∃ j, k = j + 1 := ⟨k - 1, by omega⟩
          clear hk00
          obtain ⟨y, hy⟩ : ∃ y, ys[j]? = some y := ⟨_, List.getElem?_eq_getElem (by have := HnB.out; omega)⟩
          obtain ⟨b2, o2, cs2, hA2, _, _, hh2, hcell2⟩ := (HxB.out.belowSize HBr.out).elem hy
          obtain ⟨rfl, _⟩ := hh2
          injection hA2 with hA2
          injection hA2 with hb2 ho2 _
          subst hb2 ho2
          have d0 := hcell2 0 _ rfl
          simp only [rEdge, Nat.add_zero] at d0
          have hpv : prevAt (edgeNames ys) (j + 1) = some y.label := by show (edgeNames ys)[j]? = _; unfold edgeNames; rw [List.getElem?_map, hy]; rfl
          have hwj : IntKind.i64.wrap (((j + 1 : Nat) : Int) - 1) = (j : Int) := by rw [IntWalk.i64_in _ ⟨by omega, by omega⟩]; omega
          have hgt : (0 : Int) < ((j + 1 : Nat) : Int) := by omega
          have hj0 : (0 : Int) ≤ (j : Int) := by omega
          have hjn : (j : Int) < (en : Int) := by omega
          have Hls : Hid (behind (some y.label) y0 = Op.bytesLess y.label.toList y0.toList) := rfl
          rw [hpv, hnb, Hls.out, Bool.true_and] at Hst
          clear hpv hcell hcell2 hy hnb Hls
          generalize y.label = z0 at *
          cases hls : Op.bytesLess z0.toList y0.toList with
          | true =>
            have Hnx2 : Hid (PB = risesGo (prevAt (edgeNames ys) (j + 1 + 1)) ((edgeNames ys).drop (j + 1 + 1))) := by unfold Hid; rw [Hst.out, hls, Bool.true_and]
            clear Hst
            go_wp2_with fail
            refine (Hnm.out wr).mono ?_
            rintro e w3 ⟨rfl, rfl⟩
            go_wp2_with fail
            have r_q5 := cell_regrown q5
            have r_c0 := cell_regrown c0
            have r_d0 := cell_regrown d0
            go_wp2_with fail
            refine wp_region_qb (by kernel_rfl) (by kernel_rfl) ?_
            repeat (go_big_quiet_step (first | fail))
            refine wpQuiet_nil ?_
            intro w4 B4
            have HB4 := Lib.hid (bot hbel.out B4)
            go_wp2_with fail
            go_roundw
            case rel => exact ⟨j + 1 + 1, by omega, by go_num, Hnx2, HB4⟩
            case measure => simp [intOf]; omega
          | false =>
            have Hr : Hid (PB = false) := by unfold Hid; rw [Hst.out, hls]; rfl
            clear Hst
            go_wp2_with fail
            refine (Hnm.out wr).mono ?_
            rintro e w3 ⟨rfl, rfl⟩
            go_wp2_with fail
            have r_q5 := cell_regrown q5
            have r_c0 := cell_regrown c0
            have r_d0 := cell_regrown d0
            go_wp2_with fail
            refine wp_region_qb (by kernel_rfl) (by kernel_rfl) ?_
            repeat (go_big_quiet_step (first | fail))
            refine wpQuiet_nil ?_
            intro w4 B4
            have HB4 := Lib.hid (bot HBr.out B4)
            go_wp2_with fail
            go_ret
            exact ⟨ret_bP (by rw [HR2.out, Hr.out]), HB4.out⟩

    case pos =>
    have hkI : (k : Int) < (n : Int) := by omega
    obtain ⟨x, hx⟩ : ∃ x, xs[k]? = some x := ⟨_, List.getElem?_eq_getElem (by have := HnA.out; omega)⟩
    obtain ⟨b, o, cs, hA, _, hb1, hh, hcell⟩ := (HxA.out.belowSize HBr.out).elem hx
    subst hA
    obtain ⟨rfl, hnm, _⟩ := hh
    have c0 := hcell 0 _ rfl
    simp only [rPin, Nat.add_zero] at c0
    have hs : (pinNames xs)[k]? = some x.name := by unfold pinNames; rw [List.getElem?_map, hx]; rfl
    have Hst := Lib.hid (Hm.out.trans (risesGo_step hs))
    have Hnm : Hid (∀ W, Calls Tryz.prog 97 #[.string x.name] W fun e w' => e = .returned (.bool (nameB x.name)) ∧ W = w') := fun W => refName_any x.name hnm W
    clear Hm hs
    generalize x.name = y0 at *
    cases hnb : nameB y0 with
    | false =>
      have Hr : Hid (PA = false) := by unfold Hid; rw [Hst.out, hnb]; rfl
      rw [hnb] at Hnm
      clear Hst hnb hcell
      go_wp2_with fail
      refine (Hnm.out wr).mono ?_
      rintro e w3 ⟨rfl, rfl⟩
      go_wp2_with fail
      have r_q4 := cell_regrown q4
      have r_c0 := cell_regrown c0
      go_wp2_with fail
      refine wp_region_qb (by kernel_rfl) (by kernel_rfl) ?_
      repeat (go_big_quiet_step (first | fail))
      refine wpQuiet_nil ?_
      intro w4 B4
      have HB4 := Lib.hid (bot HBr.out B4)
      go_wp2_with fail
      go_ret
      exact ⟨ret_bP (by rw [HR.out, Hr.out]; simp), HB4.out⟩
    | true =>
    rw [hnb] at Hnm
    by_cases hk00 : k = 0
    case pos =>
      have Hnx2 : Hid (PA = risesGo (prevAt (pinNames xs) (k + 1)) ((pinNames xs).drop (k + 1))) := by unfold Hid; rw [Hst.out, hnb, show prevAt (pinNames xs) k = none by rw [hk00]; rfl]; rfl
      have hng : ¬ (0 : Int) < (k : Int) := by omega
      have hngd : decide (0 < k) = false := decide_eq_false (by omega)
      clear Hst hnb hk00 hcell
      go_wp2_with fail
      refine (Hnm.out wr).mono ?_
      rintro e w3 ⟨rfl, rfl⟩
      go_wp2_with fail
      have r_q4 := cell_regrown q4
      have r_c0 := cell_regrown c0
      go_wp2_with fail
      refine wp_region_qb (by kernel_rfl) (by kernel_rfl) ?_
      repeat (go_big_quiet_step (first | fail))
      refine wpQuiet_nil ?_
      intro w4 B4
      have HB4 := Lib.hid (bot hbel.out B4)
      go_wp2_with fail
      go_roundw
      case rel => exact ⟨k + 1, by omega, by go_num, Hnx2, HB4⟩
      case measure => simp [intOf]; omega
    case neg =>
      obtain ⟨j, rfl⟩ : ∃ j, k = j + 1 := ⟨k - 1, by omega⟩
      clear hk00
      obtain ⟨y, hy⟩ : ∃ y, xs[j]? = some y := ⟨_, List.getElem?_eq_getElem (by have := HnA.out; omega)⟩
      obtain ⟨b2, o2, cs2, hA2, _, _, hh2, hcell2⟩ := (HxA.out.belowSize HBr.out).elem hy
      obtain ⟨rfl, _⟩ := hh2
      injection hA2 with hA2
      injection hA2 with hb2 ho2 _
      subst hb2 ho2
      have d0 := hcell2 0 _ rfl
      simp only [rPin, Nat.add_zero] at d0
      have hpv : prevAt (pinNames xs) (j + 1) = some y.name := by show (pinNames xs)[j]? = _; unfold pinNames; rw [List.getElem?_map, hy]; rfl
      have hwj : IntKind.i64.wrap (((j + 1 : Nat) : Int) - 1) = (j : Int) := by rw [IntWalk.i64_in _ ⟨by omega, by omega⟩]; omega
      have hgt : (0 : Int) < ((j + 1 : Nat) : Int) := by omega
      have hj0 : (0 : Int) ≤ (j : Int) := by omega
      have hjn : (j : Int) < (n : Int) := by omega
      have Hls : Hid (behind (some y.name) y0 = Op.bytesLess y.name.toList y0.toList) := rfl
      rw [hpv, hnb, Hls.out, Bool.true_and] at Hst
      clear hpv hcell hcell2 hy hnb Hls
      generalize y.name = z0 at *
      cases hls : Op.bytesLess z0.toList y0.toList with
      | true =>
        have Hnx2 : Hid (PA = risesGo (prevAt (pinNames xs) (j + 1 + 1)) ((pinNames xs).drop (j + 1 + 1))) := by unfold Hid; rw [Hst.out, hls, Bool.true_and]
        clear Hst
        go_wp2_with fail
        refine (Hnm.out wr).mono ?_
        rintro e w3 ⟨rfl, rfl⟩
        go_wp2_with fail
        have r_q4 := cell_regrown q4
        have r_c0 := cell_regrown c0
        have r_d0 := cell_regrown d0
        go_wp2_with fail
        refine wp_region_qb (by kernel_rfl) (by kernel_rfl) ?_
        repeat (go_big_quiet_step (first | fail))
        refine wpQuiet_nil ?_
        intro w4 B4
        have HB4 := Lib.hid (bot hbel.out B4)
        go_wp2_with fail
        go_roundw
        case rel => exact ⟨j + 1 + 1, by omega, by go_num, Hnx2, HB4⟩
        case measure => simp [intOf]; omega
      | false =>
        have Hr : Hid (PA = false) := by unfold Hid; rw [Hst.out, hls]; rfl
        clear Hst
        go_wp2_with fail
        refine (Hnm.out wr).mono ?_
        rintro e w3 ⟨rfl, rfl⟩
        go_wp2_with fail
        have r_q4 := cell_regrown q4
        have r_c0 := cell_regrown c0
        have r_d0 := cell_regrown d0
        go_wp2_with fail
        refine wp_region_qb (by kernel_rfl) (by kernel_rfl) ?_
        repeat (go_big_quiet_step (first | fail))
        refine wpQuiet_nil ?_
        intro w4 B4
        have HB4 := Lib.hid (bot HBr.out B4)
        go_wp2_with fail
        go_ret
        exact ⟨ret_bP (by rw [HR.out, Hr.out]; simp), HB4.out⟩
end Go.Proofs.YtminjjdnmpaaoaaGreatDoor
