/-
  halyardref02.Parse: a version's text read byte by byte, walked.
-/
import Derived.Test.YtghihopmiagcpaaGreatDoorRefVP
import Derived.Test.YtghihopmiagcpaaGreatDoorVParse
import Derived.Test.YtghihopmiagcpaaGreatDoorIRow
import Derived.Test.YtghihopmiagcpaaGreatDoorScanName
set_option autoImplicit false
set_option relaxedAutoImplicit false
set_option linter.unusedVariables false
set_option linter.unusedSimpArgs false
namespace Go.Proofs.YtghihopmiagcpaaGreatDoor
open Go.Rows Go.RowKit Go.Shelf Go.Sort

theorem pAll_next {s : List UInt8} {k : Nat} (hk : k < s.length) : pAll (s.take (k + 1)) = pStep (pAll (s.take k)) s[k] := by
  unfold pAll
  rw [List.take_succ_eq_append_getElem hk, List.foldl_append]; rfl
theorem pAll_dead {s : List UInt8} {k : Nat} (h : pAll (s.take k) = none) : pAll s = none := by
  unfold pAll at h ⊢
  conv => lhs; rw [← List.take_append_drop k s]
  rw [List.foldl_append, h, pStep_dead]
theorem getElem_data {s : ByteArray} {k : Nat} (h : k < s.size) (h' : k < s.data.toList.length) : s.data.toList[k] = s[k] := by
  have := byte_at s k h
  rw [List.drop_eq_getElem_cons h'] at this
  exact (List.cons.inj this).1

theorem cell_newV (W : World) (v : Value) (t : TypeId) (n : Nat) (h : n = W.heap.size) : (W.alloc (.cells #[v] t)).cell? ⟨n, 0, none⟩ = some v := by
  subst h
  exact World.cell?_alloc_new W _ _ 0
set_option maxHeartbeats 4000000 in
set_option maxRecDepth 100000 in
theorem refVParse_any (s : ByteArray) (w : World) (hs : s.size ≤ 1000000) :
    Calls Tryz.prog 71 #[.string s] w fun e w' => e = .returned (.tuple #[verV ((vparse s).getD ⟨0, 0, 0⟩), .bool (vparse s).isSome]) ∧ Below w.heap.size w w' := by
  have hL : s.size = s.data.toList.length := size_data s
  have HL := Lib.hid hL
  have Hnext : Hid (∀ (k : Nat) (h : k < s.size), pAll (s.data.toList.take (k + 1)) = pStep (pAll (s.data.toList.take k)) s[k]) := fun k h => by
    rw [pAll_next (by omega), getElem_data h (by omega)]
  have Hdead : Hid (∀ k : Nat, pAll (s.data.toList.take k) = none → vparse s = none) := fun k h => pAll_none (pAll_dead h)
  have Hend : Hid (∀ q, pAll (s.data.toList.take s.size) = q → pAll s.data.toList = q) := fun q h => by rw [hL, List.take_length] at h; exact h
  have Hbnd : Hid (∀ k l x, pAll (s.data.toList.take k) = some (l, x) → (0 ≤ x ∧ x ≤ 9999) ∧ (∀ y ∈ l, 0 ≤ y ∧ y ≤ 9999) ∧ l.length ≤ k) := fun k l x h => by
    obtain ⟨h1, h2, h3⟩ := pAll_bounds _ l x h
    exact ⟨h1, h2, Nat.le_trans h3 (by rw [List.length_take]; omega)⟩
  have Hpr : Hid (∀ x y z W, Calls Tryz.prog 23 #[.agg #[.int .i64 x, .int .i64 y, .int .i64 z]] W fun e w' => e = .returned (.string (verText x y z)) ∧ Below W.heap.size W w') := fun x y z W => refVerPrint_any x y z W
  clear hL
  go_enter Tryz.func71, Tryz.ntmps71
  go_wp2_with fail
  obtain ⟨w1, hw1⟩ : ∃ w1, w1 = w.alloc (.cells #[.int .i64 0, .int .i64 0, .int .i64 0] 24) := ⟨_, rfl⟩
  have HB1 : Hid (Below w.heap.size w w1) := by unfold Hid; rw [hw1]; exact bal (Below.refl _ _) _
  have hr1 : w1.heap[w.heap.size]? = some (.cells #[.int .i64 0, .int .i64 0, .int .i64 0] 24 (0, 0)) := by rw [hw1]; exact heap_alloc_new w _
  have hz1 : w.heap.size < w1.heap.size := (Array.getElem?_eq_some_iff.1 hr1).1
  have hzz : w1.heap.size = w.heap.size + 1 := by rw [hw1]; simp
  rw [← hw1]
  clear hw1
  obtain ⟨w2, hw2⟩ : ∃ w2, w2 = w1.alloc (.cells #[.int .i64 0] 3) := ⟨_, rfl⟩
  have HM2 : Hid (IRow w2 w1.heap.size w1.heap.size 0 1 ([] ++ [0])) := by rw [hw2]; exact IRow.lit _ _ _ _ (Nat.le_refl _)
  have HB2 : Hid (Below w1.heap.size w1 w2) := by unfold Hid; rw [hw2]; exact bal (Below.refl _ _) _
  rw [← hw2]
  clear hw2
  have Hr1 := Lib.hid hr1
  clear hr1
  obtain ⟨B, hB⟩ : ∃ B, B = w1.heap.size := ⟨_, rfl⟩
  rw [← hB] at HM2 HB2 hz1 hzz
  rw [← hzz]
  have HBB := Lib.hid hB
  clear hB hzz
  go_loopw [4, 5] (fun v i wr => ∃ (k n g o c : Nat) (l : List Int) (x : Int), k ≤ s.size ∧ i = .int .i64 k ∧ v = .slice (some ⟨g, o, none⟩) n c ∧ n = l.length + 1 ∧ Hid (pAll (s.data.toList.take k) = some (l, x)) ∧ Hid (IRow wr B g o c (l ++ [x])) ∧ Hid (Below B w1 wr)) (fun _ i _ => s.size - (intOf i).toNat)
  case atStart => exact ⟨0, 1, B, 0, 1, [], 0, Nat.zero_le _, rfl, rfl, rfl, rfl, HM2, HB2.out⟩
  case round =>
    clear HM2 HB2
    obtain ⟨k, n, g, o, c, l, x, hk, rfl, rfl, hn, Hp, HM, HB⟩ := hrel
    obtain ⟨⟨hx0, hx1⟩, hlb, hll⟩ := Hbnd.out k l x Hp.out
    have Hlb := Lib.hid hlb
    have hnl : (l ++ [x]).length = n := by rw [List.length_append, hn]; rfl
    have hrr := (HB.out.block _ hz1).trans Hr1.out
    have Hbw : Hid (Below w.heap.size w wr) := HB1.out.trans (HB.out.mono (by omega))
    have hwz := HB.out.size
    have hBwr : B ≤ wr.heap.size := by have := HBB.out; omega
    by_cases hlt : k < s.size
    case neg =>
      obtain rfl : k = s.size := by omega
      have hlt' : ¬ (s.size : Int) < (s.size : Int) := by omega
      have Hp' := Lib.hid (Hend.out _ Hp.out)
      by_cases h3 : n = 3
      case neg =>
        have Hno : Hid (vparse s = none) := pAll_len Hp'.out (by omega)
        have h3' : ((n : Int) != 3) = true := by simp; omega
        obtain ⟨⟨d0, d1, d2⟩, g0, g1, g2⟩ := row3 hrr
        have Hrr := Lib.hid hrr
        clear hrr HM hnl hn hlb Hp Hp' Hnext Hdead Hend Hbnd
        go_wp2_with fail
        refine ret_ver rfl rfl rfl rfl (heap_set3 Hrr.out _ _ _) Tryz.underlying24 rfl (by kernel_rfl) ⟨?_, ?_⟩
        · rw [Hno.out]; rfl
        · exact ((Hbw.out.setCell (Nat.le_refl _) _).setCell (Nat.le_refl _) _).setCell (Nat.le_refl _) _
      have h3' : ((n : Int) != 3) = false := by simp; omega
      obtain ⟨x0, x1, rfl⟩ : ∃ x0 x1, l = [x0, x1] := by
        match l, hn with
        | [a, b], _ => exact ⟨a, b, rfl⟩
        | [], h => simp at h; omega
        | [a], h => simp at h; omega
        | a :: b :: c :: r, h => simp at h; omega
      have q0 := HM.out.at_ 0 x0 rfl
      have q1 := HM.out.at_ 1 x1 rfl
      have q2 := HM.out.at_ 2 x rfl
      subst h3
      have he : Hid ((s.toList == []) = false) := by
        unfold Hid
        rw [beq_eq_false_iff_ne]
        intro e
        refine pAll_empty Hp'.out ?_
        rw [size_data s, ← Go.ByteArray.toList_eq, e]; rfl
      have He := Lib.hid he.out
      have Hyes : Hid (verText x0 x1 x = s → vparse s = some ⟨x0, x1, x⟩) := fun h => pAll_yes Hp'.out h
      have Hoth : Hid (verText x0 x1 x ≠ s → vparse s = none) := fun h => pAll_other Hp'.out h
      have Hrr := Lib.hid hrr
      have he' := he.out
      clear hrr HM hnl hn hlb Hp Hp' Hnext Hdead Hend Hbnd he hll
      rw [Nat.add_zero] at q0
      have hzz1 := HBB.out
      go_wp2_with fail
      go_region_held3 (fun w' => w'.cell? ⟨g, o, none⟩ = some (.int .i64 x0) ∧ w'.cell? ⟨g, o + 1, none⟩ = some (.int .i64 x1) ∧ w'.cell? ⟨g, o + 2, none⟩ = some (.int .i64 x)) (first | go_keep) (fail)
      clear q0 q1 q2
      all_goals
        obtain ⟨w4, hw4⟩ : ∃ w4, w4 = (wr.alloc (.cells #[.int .i64 x0, .int .i64 x1, .int .i64 x] 24)).drew := ⟨_, rfl⟩
        obtain ⟨b4, hb4⟩ : ∃ b4, b4 = wr.heap.size := ⟨_, rfl⟩
        have HB4 : Hid (Below w.heap.size w w4) := by unfold Hid; rw [hw4]; exact (bal Hbw.out _).drew
        have hr4 : w4.heap[w.heap.size]? = some (.cells #[.int .i64 0, .int .i64 0, .int .i64 0] 24 (0, 0)) := by
          rw [hw4]
          exact (((Below.refl wr.heap.size wr).alloc (Nat.le_refl _) _).drew.block _ (Array.getElem?_eq_some_iff.1 Hrr.out).1).trans Hrr.out
        have hn4 : w4.heap[b4]? = some (.cells #[.int .i64 x0, .int .i64 x1, .int .i64 x] 24 (0, 0)) := by rw [hw4, hb4]; exact heap_alloc_new _ _
        rw [← hw4, ← hb4]
        clear hw4 hb4
        have hz4 : w.heap.size < w4.heap.size := (Array.getElem?_eq_some_iff.1 hr4).1
        have hzn : b4 < w4.heap.size := (Array.getElem?_eq_some_iff.1 hn4).1
        obtain ⟨T, hT⟩ : ∃ T, T = verText x0 x1 x := ⟨_, rfl⟩
        have Hpr' := Lib.hid (Hpr.out x0 x1 x)
        rw [← hT] at Hpr' Hyes Hoth
        clear hT Hpr
        obtain ⟨⟨p0, p1, p2⟩, _⟩ := row3 hn4
        go_wp2_with fail
        refine (Hpr'.out _).mono ?_
        rintro e w5 ⟨rfl, hb5⟩
        have HB5 := Lib.hid (bot HB4.out hb5)
        have hr5 : w5.heap[w.heap.size]? = some (.cells #[.int .i64 0, .int .i64 0, .int .i64 0] 24 (0, 0)) := (hb5.block _ hz4).trans hr4
        have hn5 : w5.heap[b4]? = some (.cells #[.int .i64 x0, .int .i64 x1, .int .i64 x] 24 (0, 0)) := (hb5.block _ hzn).trans hn4
        obtain ⟨⟨d0, d1, d2⟩, g0, g1, g2⟩ := row3 hr5
        obtain ⟨⟨e0, e1, e2⟩, _⟩ := row3 hn5
        have Hr5 := Lib.hid hr5
        clear hb5 hr5 hn5 hr4 HB4 hn4 p0 p1 p2
        by_cases hts : T = s
        · have hbe : (T.toList != s.toList) = false := by rw [hts]; simp
          have hbe2 : (T.toList == s.toList) = true := by rw [hts]; simp
          have Hv := Lib.hid (Hyes.out hts)
          clear hts Hyes Hoth
          go_wp2_with fail
          refine ret_ver rfl rfl rfl rfl (heap_set3 Hr5.out _ _ _) Tryz.underlying24 rfl (by kernel_rfl) ⟨?_, ?_⟩
          · rw [Hv.out]; rfl
          · exact ((HB5.out.setCell (Nat.le_refl _) _).setCell (Nat.le_refl _) _).setCell (Nat.le_refl _) _
        · have hne : T.toList ≠ s.toList := fun e => hts (bytes_ext (by rw [Go.ByteArray.toList_eq, Go.ByteArray.toList_eq] at e; exact e))
          have hbe : (T.toList != s.toList) = true := by simpa using hne
          have hbe2 : (T.toList == s.toList) = false := by simpa using hne
          have Hv := Lib.hid (Hoth.out hts)
          clear hts hne Hyes Hoth
          go_wp2_with fail
          refine ret_ver rfl rfl rfl rfl (heap_set3 Hr5.out _ _ _) Tryz.underlying24 rfl (by kernel_rfl) ⟨?_, ?_⟩
          · rw [Hv.out]; rfl
          · exact ((HB5.out.setCell (Nat.le_refl _) _).setCell (Nat.le_refl _) _).setCell (Nat.le_refl _) _
    have hkI : (k : Int) < (s.size : Int) := by omega
    have hk0 : (0 : Int) ≤ (k : Int) := by omega
    have Hst := Lib.hid ((Hnext.out k hlt).trans (by rw [Hp.out]))
    have Hdd := Lib.hid (Hdead.out (k + 1))
    obtain ⟨m, hm⟩ : ∃ m, m = l.length := ⟨_, rfl⟩
    have hnm : n = m + 1 := by omega
    have hwr : IntKind.i64.wrap ((n : Int) - 1) = (m : Int) := by rw [IntWalk.i64_in _ ⟨by omega, by omega⟩]; omega
    have q0 := HM.out.at_ m x (by rw [hm]; simp)
    have f0 := HM.out.frozen (j := m) (by have := HM.out.le; rw [hnl] at this; omega)
    have hmn : (m : Int) < (n : Int) := by omega
    have hm0 : (0 : Int) ≤ (m : Int) := by omega
    have HM' : Hid (∀ W, Below wr.heap.size wr W → ∀ y, IRow (W.setCell ⟨g, o + m, none⟩ (.int .i64 y)) B g o c (l ++ [y])) := fun W hW y => by
      have := ((HM.out.keep hW).set (j := m) (by rw [hnl]; omega) y).1
      rw [hm] at this ⊢
      rw [show (l ++ [x]).set l.length y = l ++ [y] from by rw [List.set_append_right _ _ (Nat.le_refl _)]; simp] at this
      exact this
    have hgB := HM.out.lo
    have hlo : w.heap.size < g := by omega
    have Hhl := Lib.hid hm
    obtain ⟨y, hy⟩ : ∃ y, y = s[k] := ⟨_, rfl⟩
    rw [← hy] at Hst
    have Hy := Lib.hid hy
    have hsk : s[k] = y := hy.symm
    have hn9 : n ≤ 1000001 := by omega
    have Hhn := Lib.hid hnl
    have Hhn2 := Lib.hid hn
    have Hnm := Lib.hid hnm
    clear Hend Hnext Hdead Hpr hm hy hn hnl hnm
    by_cases h46 : (s[k].toNat : Int) = 46
    · have hb46 : ((s[k].toNat : Int) == 46) = true := by simp [h46]
      have hy46 : y = 46 := by rw [← hsk]; apply UInt8.toNat_inj.1; show s[k].toNat = 46; omega
      have Hst' : Hid (pAll (s.data.toList.take (k + 1)) = some (l ++ [x], 0)) := by unfold Hid; rw [Hst.out, hy46]; simp [pStep]
      clear Hst Hdd hsk hy46 Hy q0 f0 HM'
      go_wp2_with (at_builtin; refine wpList_ipush (by rfl) _ _ _ 3 (by rfl) elt_ints Tryz.underlying74 n Hhn.out.symm (by rfl) (HM.out.alloc _) ⟨wr.heap.size, 0, none⟩ 1 0 (by rfl) (cell_newV _ _ _ _ rfl) (by rw [Hhn.out]; unfold maxLen; omega) (by rw [Hhn.out]; omega) (by simp; omega) (wr.heap.size + 1) (by simp) ?_)
      intro g5 k5 c5 w3 hrow hgrow hat
      have HM3 := Lib.hid hrow
      have HB3 : Hid (Below B w1 w3) := (HB.out.alloc (by have := HBB.out; omega) _).grown hgrow (by simp; omega) (fun b hb => by rw [← Option.some.inj hb]; exact HM.out.lo)
      clear hrow hgrow hat HM HB
      go_wp2_with fail
      go_roundw
      case rel => exact ⟨k + 1, n + 1, g5, k5, c5, l ++ [x], 0, by omega, by go_num, rfl, by rw [Hhn.out], Hst', by unfold Hid; rw [List.append_assoc]; exact HM3.out, HB3⟩
      case measure => simp [intOf]; omega
    have hb46 : ((s[k].toNat : Int) == 46) = false := by simpa using h46
    have hy46 : y ≠ 46 := fun e => h46 (by rw [hsk, e]; rfl)
    by_cases hd : ((48 : Int) ≤ s[k].toNat ∧ (s[k].toNat : Int) ≤ 57) ∧ x ≤ 999
    · obtain ⟨⟨hd1, hd2⟩, hd3⟩ := hd
      have Hst' : Hid (pAll (s.data.toList.take (k + 1)) = some (l, 10 * x + ((s[k].toNat : Int) - 48))) := by
        unfold Hid; rw [Hst.out, hsk]; unfold pStep; simp only [if_neg hy46]; rw [if_pos]; rw [← hsk]; exact ⟨⟨by omega, by omega⟩, hd3⟩
      clear Hst Hdd hsk hy46 Hy
      have hw1 : IntKind.i64.wrap (10 * x) = 10 * x := IntWalk.i64_in _ ⟨by omega, by omega⟩
      have hw2 : IntKind.i64.wrap (10 * x + ((s[k].toNat : Int) - 48)) = 10 * x + ((s[k].toNat : Int) - 48) := IntWalk.i64_in _ ⟨by omega, by omega⟩
      have hw3 : IntKind.u8.wrap ((s[k].toNat : Int) - 48) = (s[k].toNat : Int) - 48 := by unfold IntKind.wrap; simp [IntKind.bits, IntKind.signed]; omega
      have hw4 : IntKind.i64.wrap ((s[k].toNat : Int) - 48) = (s[k].toNat : Int) - 48 := IntWalk.i64_in _ ⟨by omega, by omega⟩
      go_wp2_with fail
      have r_q0 := cell_regrown q0
      go_wp2_with fail
      refine wp_region_qb_tail 14 (by kernel_rfl) (by kernel_rfl) ?_
      simp only [List.take_succ_cons, List.take_zero, List.drop_succ_cons, List.drop_zero]
      repeat (go_big_quiet_step (first | fail))
      refine wpQuiet_nil ?_
      intro w3 B3
      have d0 := below_cell B3 q0 (cell_lt q0)
      have f3 : w3.frozen? ⟨g, o + m, none⟩ = false := (frozen_same (B3.block g HM.out.lt) _ _).trans f0
      have HM3 := Lib.hid (HM'.out w3 B3 (10 * x + ((s[k].toNat : Int) - 48)))
      have HB3 : Hid (Below B w1 (w3.setCell ⟨g, o + m, none⟩ (.int .i64 (10 * x + ((s[k].toNat : Int) - 48))))) := (HB.out.trans (B3.mono (by have := HBB.out; omega))).setCell hgB _
      clear q0 f0 HM' HM r_q0
      go_wp2_with fail
      go_roundw
      case rel => exact ⟨k + 1, n, g, o, c, l, 10 * x + ((s[k].toNat : Int) - 48), by omega, by go_num, rfl, Hhn2.out, Hst', HM3, HB3⟩
      case measure => simp [intOf]; omega
    · have Hno : Hid (vparse s = none) := Hdd.out (by rw [Hst.out]; unfold pStep; simp only [if_neg hy46]; rw [if_neg]; rintro ⟨⟨a1, a2⟩, a3⟩; rw [← hsk] at a1 a2; exact hd ⟨⟨by omega, by omega⟩, a3⟩)
      obtain ⟨⟨d0, d1, d2⟩, g0, g1, g2⟩ := row3 hrr
      have Hrr := Lib.hid hrr
      have hcs : (s[k].toNat : Int) < 48 ∨ ((48 : Int) ≤ s[k].toNat ∧ (57 : Int) < s[k].toNat) ∨ ((48 : Int) ≤ s[k].toNat ∧ (s[k].toNat : Int) ≤ 57 ∧ 999 < x) := by omega
      clear Hst Hdd hsk hy46 Hy HM' hd
      rcases hcs with q1 | ⟨q1, q2⟩ | ⟨q1, q2, q3⟩
      · have z1 : decide ((48 : Int) ≤ (s[k].toNat : Int)) = false := decide_eq_false (by omega)
        have z2 : ¬ (48 : Int) ≤ (s[k].toNat : Int) := by omega
        have z3 : decide (48 ≤ s[k].toNat) = false := decide_eq_false (by omega)
        go_wp2_with fail
        refine ret_ver rfl rfl rfl rfl (heap_set3 Hrr.out _ _ _) Tryz.underlying24 rfl (by kernel_rfl) ⟨?_, ?_⟩
        · rw [Hno.out]; rfl
        · exact ((Hbw.out.setCell (Nat.le_refl _) _).setCell (Nat.le_refl _) _).setCell (Nat.le_refl _) _
      · have z1 : decide ((s[k].toNat : Int) ≤ 57) = false := decide_eq_false (by omega)
        have z2 : ¬ (s[k].toNat : Int) ≤ 57 := by omega
        have z3 : decide (s[k].toNat ≤ 57) = false := decide_eq_false (by omega)
        go_wp2_with fail
        refine ret_ver rfl rfl rfl rfl (heap_set3 Hrr.out _ _ _) Tryz.underlying24 rfl (by kernel_rfl) ⟨?_, ?_⟩
        · rw [Hno.out]; rfl
        · exact ((Hbw.out.setCell (Nat.le_refl _) _).setCell (Nat.le_refl _) _).setCell (Nat.le_refl _) _
      · have z1 : decide (x ≤ 999) = false := decide_eq_false (by omega)
        have z2 : ¬ x ≤ 999 := by omega
        go_wp2_with fail
        refine ret_ver rfl rfl rfl rfl (heap_set3 Hrr.out _ _ _) Tryz.underlying24 rfl (by kernel_rfl) ⟨?_, ?_⟩
        · rw [Hno.out]; rfl
        · exact ((Hbw.out.setCell (Nat.le_refl _) _).setCell (Nat.le_refl _) _).setCell (Nat.le_refl _) _
end Go.Proofs.YtghihopmiagcpaaGreatDoor
