/-
  halyardref02.Parse: a version's text read byte by byte, walked.
  halyardref03.begins, from, word: a word of a range read as the document does, walked.
  halyardref03.alternatives, words: a text's parts between bars, between blanks, walked.
  halyardref03.Parse: a range's text read as the document does, walked.
-/
import Derived.Test.YtldjldkejjeamaaGreatDoorRefWP
import Derived.Test.YtldjldkejjeamaaGreatDoorVParse
import Derived.Test.YtldjldkejjeamaaGreatDoorIRow
import Derived.Test.YtldjldkejjeamaaGreatDoorScanName
import Derived.Test.YtldjldkejjeamaaGreatDoorSpanQ
import Derived.Test.YtldjldkejjeamaaGreatDoorKnowP
import Derived.Test.YtldjldkejjeamaaGreatDoorSpanL
import Derived.Test.YtldjldkejjeamaaGreatDoorFoldR
set_option autoImplicit false
set_option relaxedAutoImplicit false
set_option linter.unusedVariables false
set_option linter.unusedSimpArgs false
namespace Go.Proofs.YtldjldkejjeamaaGreatDoor
open Go.Rows Go.RowKit Go.Shelf Go.Sort

theorem pAll_next {s : List UInt8} {k : Nat} (hk : k < s.length) : pAll (s.take (k + 1)) = pStep (pAll (s.take k)) s[k] := by
  unfold pAll
  rw [List.take_succ_eq_append_getElem hk, List.foldl_append]; rfl
theorem pAll_dead {s : List UInt8} {k : Nat} (h : pAll (s.take k) = none) : pAll s = none := by
  unfold pAll at h ⊢
  conv => lhs; rw [← List.take_append_drop k s]
  rw [List.foldl_append, h, pStep_dead]
theorem getElem_data {s : ByteArray} {k : Nat} (h : k < s.size) (h' : k < s.data.toList.length) : s.data.toList[k] = s[k] := by
  have := byte_at s k h
  rw [List.drop_eq_getElem_cons h'] at this
  exact (List.cons.inj this).1

theorem cell_newV (W : World) (v : Value) (t : TypeId) (n : Nat) (h : n = W.heap.size) : (W.alloc (.cells #[v] t)).cell? ⟨n, 0, none⟩ = some v := by
  subst h
  exact World.cell?_alloc_new W _ _ 0
set_option maxHeartbeats 4000000 in
set_option maxRecDepth 100000 in
theorem refVParse_any (s : ByteArray) (w : World) (hs : s.size ≤ 1000000) :
    Calls Tryz.prog 52 #[.string s] w fun e w' => e = .returned (.tuple #[verV ((vparse s).getD ⟨0, 0, 0⟩), .bool (vparse s).isSome]) ∧ Below w.heap.size w w' := by
  have hL : s.size = s.data.toList.length := size_data s
  have HL := Lib.hid hL
  have Hnext : Hid (∀ (k : Nat) (h : k < s.size), pAll (s.data.toList.take (k + 1)) = pStep (pAll (s.data.toList.take k)) s[k]) := fun k h => by
    rw [pAll_next (by omega), getElem_data h (by omega)]
  have Hdead : Hid (∀ k : Nat, pAll (s.data.toList.take k) = none → vparse s = none) := fun k h => pAll_none (pAll_dead h)
  have Hend : Hid (∀ q, pAll (s.data.toList.take s.size) = q → pAll s.data.toList = q) := fun q h => by rw [hL, List.take_length] at h; exact h
  have Hbnd : Hid (∀ k l x, pAll (s.data.toList.take k) = some (l, x) → (0 ≤ x ∧ x ≤ 9999) ∧ (∀ y ∈ l, 0 ≤ y ∧ y ≤ 9999) ∧ l.length ≤ k) := fun k l x h => by
    obtain ⟨h1, h2, h3⟩ := pAll_bounds _ l x h
    exact ⟨h1, h2, Nat.le_trans h3 (by rw [List.length_take]; omega)⟩
  have Hpr : Hid (∀ x y z W, Calls Tryz.prog 60 #[.agg #[.int .i64 x, .int .i64 y, .int .i64 z]] W fun e w' => e = .returned (.string (verText x y z)) ∧ Below W.heap.size W w') := fun x y z W => refVerPrint_any x y z W
  clear hL
  go_enter Tryz.func52, Tryz.ntmps52
  go_wp2_with fail
  obtain ⟨w1, hw1⟩ : ∃ w1, w1 = w.alloc (.cells #[.int .i64 0, .int .i64 0, .int .i64 0] 23) := ⟨_, rfl⟩
  have HB1 : Hid (Below w.heap.size w w1) := by unfold Hid; rw [hw1]; exact bal (Below.refl _ _) _
  have hr1 : w1.heap[w.heap.size]? = some (.cells #[.int .i64 0, .int .i64 0, .int .i64 0] 23 (0, 0)) := by rw [hw1]; exact heap_alloc_new w _
  have hz1 : w.heap.size < w1.heap.size := (Array.getElem?_eq_some_iff.1 hr1).1
  have hzz : w1.heap.size = w.heap.size + 1 := by rw [hw1]; simp
  rw [← hw1]
  clear hw1
  obtain ⟨w2, hw2⟩ : ∃ w2, w2 = w1.alloc (.cells #[.int .i64 0] 3) := ⟨_, rfl⟩
  have HM2 : Hid (IRow w2 w1.heap.size w1.heap.size 0 1 ([] ++ [0])) := by rw [hw2]; exact IRow.lit _ _ _ _ (Nat.le_refl _)
  have HB2 : Hid (Below w1.heap.size w1 w2) := by unfold Hid; rw [hw2]; exact bal (Below.refl _ _) _
  rw [← hw2]
  clear hw2
  have Hr1 := Lib.hid hr1
  clear hr1
  obtain ⟨B, hB⟩ : ∃ B, B = w1.heap.size := ⟨_, rfl⟩
  rw [← hB] at HM2 HB2 hz1 hzz
  rw [← hzz]
  have HBB := Lib.hid hB
  clear hB hzz
  go_loopw [4, 5] (fun v i wr => ∃ (k n g o c : Nat) (l : List Int) (x : Int), k ≤ s.size ∧ i = .int .i64 k ∧ v = .slice (some ⟨g, o, none⟩) n c ∧ n = l.length + 1 ∧ Hid (pAll (s.data.toList.take k) = some (l, x)) ∧ Hid (IRow wr B g o c (l ++ [x])) ∧ Hid (Below B w1 wr)) (fun _ i _ => s.size - (intOf i).toNat)
  case atStart => exact ⟨0, 1, B, 0, 1, [], 0, Nat.zero_le _, rfl, rfl, rfl, rfl, HM2, HB2.out⟩
  case round =>
    clear HM2 HB2
    obtain ⟨k, n, g, o, c, l, x, hk, rfl, rfl, hn, Hp, HM, HB⟩ := hrel
    obtain ⟨⟨hx0, hx1⟩, hlb, hll⟩ := Hbnd.out k l x Hp.out
    have Hlb := Lib.hid hlb
    have hnl : (l ++ [x]).length = n := by rw [List.length_append, hn]; rfl
    have hrr := (HB.out.block _ hz1).trans Hr1.out
    have Hbw : Hid (Below w.heap.size w wr) := HB1.out.trans (HB.out.mono (by omega))
    have hwz := HB.out.size
    have hBwr : B ≤ wr.heap.size := by have := HBB.out; omega
    by_cases hlt : k < s.size
    case neg =>
      obtain rfl : k = s.size := by omega
      have hlt' : ¬ (s.size : Int) < (s.size : Int) := by omega
      have Hp' := Lib.hid (Hend.out _ Hp.out)
      by_cases h3 : n = 3
      case neg =>
        have Hno : Hid (vparse s = none) := pAll_len Hp'.out (by omega)
        have h3' : ((n : Int) != 3) = true := by simp; omega
        obtain ⟨⟨d0, d1, d2⟩, g0, g1, g2⟩ := row3 hrr
        have Hrr := Lib.hid hrr
        clear hrr HM hnl hn hlb Hp Hp' Hnext Hdead Hend Hbnd
        go_wp2_with fail
        refine ret_ver rfl rfl rfl rfl (heap_set3 Hrr.out _ _ _) Tryz.underlying23 rfl (by kernel_rfl) ⟨?_, ?_⟩
        · rw [Hno.out]; rfl
        · exact ((Hbw.out.setCell (Nat.le_refl _) _).setCell (Nat.le_refl _) _).setCell (Nat.le_refl _) _
      have h3' : ((n : Int) != 3) = false := by simp; omega
      obtain ⟨x0, x1, rfl⟩ : ∃ x0 x1, l = [x0, x1] := by
        match l, hn with
        | [a, b], _ => exact ⟨a, b, rfl⟩
        | [], h => simp at h; omega
        | [a], h => simp at h; omega
        | a :: b :: c :: r, h => simp at h; omega
      have q0 := HM.out.at_ 0 x0 rfl
      have q1 := HM.out.at_ 1 x1 rfl
      have q2 := HM.out.at_ 2 x rfl
      subst h3
      have he : Hid ((s.toList == []) = false) := by
        unfold Hid
        rw [beq_eq_false_iff_ne]
        intro e
        refine pAll_empty Hp'.out ?_
        rw [size_data s, ← Go.ByteArray.toList_eq, e]; rfl
      have He := Lib.hid he.out
      have Hyes : Hid (verText x0 x1 x = s → vparse s = some ⟨x0, x1, x⟩) := fun h => pAll_yes Hp'.out h
      have Hoth : Hid (verText x0 x1 x ≠ s → vparse s = none) := fun h => pAll_other Hp'.out h
      have Hrr := Lib.hid hrr
      have he' := he.out
      clear hrr HM hnl hn hlb Hp Hp' Hnext Hdead Hend Hbnd he hll
      rw [Nat.add_zero] at q0
      have hzz1 := HBB.out
      go_wp2_with fail
      go_region_held3 (fun w' => w'.cell? ⟨g, o, none⟩ = some (.int .i64 x0) ∧ w'.cell? ⟨g, o + 1, none⟩ = some (.int .i64 x1) ∧ w'.cell? ⟨g, o + 2, none⟩ = some (.int .i64 x)) (first | go_keep) (fail)
      clear q0 q1 q2
      all_goals
        obtain ⟨w4, hw4⟩ : ∃ w4, w4 = (wr.alloc (.cells #[.int .i64 x0, .int .i64 x1, .int .i64 x] 23)).drew := ⟨_, rfl⟩
        obtain ⟨b4, hb4⟩ : ∃ b4, b4 = wr.heap.size := ⟨_, rfl⟩
        have HB4 : Hid (Below w.heap.size w w4) := by unfold Hid; rw [hw4]; exact (bal Hbw.out _).drew
        have hr4 : w4.heap[w.heap.size]? = some (.cells #[.int .i64 0, .int .i64 0, .int .i64 0] 23 (0, 0)) := by
          rw [hw4]
          exact (((Below.refl wr.heap.size wr).alloc (Nat.le_refl _) _).drew.block _ (Array.getElem?_eq_some_iff.1 Hrr.out).1).trans Hrr.out
        have hn4 : w4.heap[b4]? = some (.cells #[.int .i64 x0, .int .i64 x1, .int .i64 x] 23 (0, 0)) := by rw [hw4, hb4]; exact heap_alloc_new _ _
        rw [← hw4, ← hb4]
        clear hw4 hb4
        have hz4 : w.heap.size < w4.heap.size := (Array.getElem?_eq_some_iff.1 hr4).1
        have hzn : b4 < w4.heap.size := (Array.getElem?_eq_some_iff.1 hn4).1
        obtain ⟨T, hT⟩ : ∃ T, T = verText x0 x1 x := ⟨_, rfl⟩
        have Hpr' := Lib.hid (Hpr.out x0 x1 x)
        rw [← hT] at Hpr' Hyes Hoth
        clear hT Hpr
        obtain ⟨⟨p0, p1, p2⟩, _⟩ := row3 hn4
        go_wp2_with fail
        refine (Hpr'.out _).mono ?_
        rintro e w5 ⟨rfl, hb5⟩
        have HB5 := Lib.hid (bot HB4.out hb5)
        have hr5 : w5.heap[w.heap.size]? = some (.cells #[.int .i64 0, .int .i64 0, .int .i64 0] 23 (0, 0)) := (hb5.block _ hz4).trans hr4
        have hn5 : w5.heap[b4]? = some (.cells #[.int .i64 x0, .int .i64 x1, .int .i64 x] 23 (0, 0)) := (hb5.block _ hzn).trans hn4
        obtain ⟨⟨d0, d1, d2⟩, g0, g1, g2⟩ := row3 hr5
        obtain ⟨⟨e0, e1, e2⟩, _⟩ := row3 hn5
        have Hr5 := Lib.hid hr5
        clear hb5 hr5 hn5 hr4 HB4 hn4 p0 p1 p2
        by_cases hts : T = s
        · have hbe : (T.toList != s.toList) = false := by rw [hts]; simp
          have hbe2 : (T.toList == s.toList) = true := by rw [hts]; simp
          have Hv := Lib.hid (Hyes.out hts)
          clear hts Hyes Hoth
          go_wp2_with fail
          refine ret_ver rfl rfl rfl rfl (heap_set3 Hr5.out _ _ _) Tryz.underlying23 rfl (by kernel_rfl) ⟨?_, ?_⟩
          · rw [Hv.out]; rfl
          · exact ((HB5.out.setCell (Nat.le_refl _) _).setCell (Nat.le_refl _) _).setCell (Nat.le_refl _) _
        · have hne : T.toList ≠ s.toList := fun e => hts (bytes_ext (by rw [Go.ByteArray.toList_eq, Go.ByteArray.toList_eq] at e; exact e))
          have hbe : (T.toList != s.toList) = true := by simpa using hne
          have hbe2 : (T.toList == s.toList) = false := by simpa using hne
          have Hv := Lib.hid (Hoth.out hts)
          clear hts hne Hyes Hoth
          go_wp2_with fail
          refine ret_ver rfl rfl rfl rfl (heap_set3 Hr5.out _ _ _) Tryz.underlying23 rfl (by kernel_rfl) ⟨?_, ?_⟩
          · rw [Hv.out]; rfl
          · exact ((HB5.out.setCell (Nat.le_refl _) _).setCell (Nat.le_refl _) _).setCell (Nat.le_refl _) _
    have hkI : (k : Int) < (s.size : Int) := by omega
    have hk0 : (0 : Int) ≤ (k : Int) := by omega
    have Hst := Lib.hid ((Hnext.out k hlt).trans (by rw [Hp.out]))
    have Hdd := Lib.hid (Hdead.out (k + 1))
    obtain ⟨m, hm⟩ : ∃ m, m = l.length := ⟨_, rfl⟩
    have hnm : n = m + 1 := by omega
    have hwr : IntKind.i64.wrap ((n : Int) - 1) = (m : Int) := by rw [IntWalk.i64_in _ ⟨by omega, by omega⟩]; omega
    have q0 := HM.out.at_ m x (by rw [hm]; simp)
    have f0 := HM.out.frozen (j := m) (by have := HM.out.le; rw [hnl] at this; omega)
    have hmn : (m : Int) < (n : Int) := by omega
    have hm0 : (0 : Int) ≤ (m : Int) := by omega
    have HM' : Hid (∀ W, Below wr.heap.size wr W → ∀ y, IRow (W.setCell ⟨g, o + m, none⟩ (.int .i64 y)) B g o c (l ++ [y])) := fun W hW y => by
      have := ((HM.out.keep hW).set (j := m) (by rw [hnl]; omega) y).1
      rw [hm] at this ⊢
      rw [show (l ++ [x]).set l.length y = l ++ [y] from by rw [List.set_append_right _ _ (Nat.le_refl _)]; simp] at this
      exact this
    have hgB := HM.out.lo
    have hlo : w.heap.size < g := by omega
    have Hhl := Lib.hid hm
    obtain ⟨y, hy⟩ : ∃ y, y = s[k] := ⟨_, rfl⟩
    rw [← hy] at Hst
    have Hy := Lib.hid hy
    have hsk : s[k] = y := hy.symm
    have hn9 : n ≤ 1000001 := by omega
    have Hhn := Lib.hid hnl
    have Hhn2 := Lib.hid hn
    have Hnm := Lib.hid hnm
    clear Hend Hnext Hdead Hpr hm hy hn hnl hnm
    by_cases h46 : (s[k].toNat : Int) = 46
    · have hb46 : ((s[k].toNat : Int) == 46) = true := by simp [h46]
      have hy46 : y = 46 := by rw [← hsk]; apply UInt8.toNat_inj.1; show s[k].toNat = 46; omega
      have Hst' : Hid (pAll (s.data.toList.take (k + 1)) = some (l ++ [x], 0)) := by unfold Hid; rw [Hst.out, hy46]; simp [pStep]
      clear Hst Hdd hsk hy46 Hy q0 f0 HM'
      go_wp2_with (at_builtin; refine wpList_ipush (by rfl) _ _ _ 3 (by rfl) elt_ints Tryz.underlying113 n Hhn.out.symm (by rfl) (HM.out.alloc _) ⟨wr.heap.size, 0, none⟩ 1 0 (by rfl) (cell_newV _ _ _ _ rfl) (by rw [Hhn.out]; unfold maxLen; omega) (by rw [Hhn.out]; omega) (by simp; omega) (wr.heap.size + 1) (by simp) ?_)
      intro g5 k5 c5 w3 hrow hgrow hat
      have HM3 := Lib.hid hrow
      have HB3 : Hid (Below B w1 w3) := (HB.out.alloc (by have := HBB.out; omega) _).grown hgrow (by simp; omega) (fun b hb => by rw [← Option.some.inj hb]; exact HM.out.lo)
      clear hrow hgrow hat HM HB
      go_wp2_with fail
      go_roundw
      case rel => exact ⟨k + 1, n + 1, g5, k5, c5, l ++ [x], 0, by omega, by go_num, rfl, by rw [Hhn.out], Hst', by unfold Hid; rw [List.append_assoc]; exact HM3.out, HB3⟩
      case measure => simp [intOf]; omega
    have hb46 : ((s[k].toNat : Int) == 46) = false := by simpa using h46
    have hy46 : y ≠ 46 := fun e => h46 (by rw [hsk, e]; rfl)
    by_cases hd : ((48 : Int) ≤ s[k].toNat ∧ (s[k].toNat : Int) ≤ 57) ∧ x ≤ 999
    · obtain ⟨⟨hd1, hd2⟩, hd3⟩ := hd
      have Hst' : Hid (pAll (s.data.toList.take (k + 1)) = some (l, 10 * x + ((s[k].toNat : Int) - 48))) := by
        unfold Hid; rw [Hst.out, hsk]; unfold pStep; simp only [if_neg hy46]; rw [if_pos]; rw [← hsk]; exact ⟨⟨by omega, by omega⟩, hd3⟩
      clear Hst Hdd hsk hy46 Hy
      have hw1 : IntKind.i64.wrap (10 * x) = 10 * x := IntWalk.i64_in _ ⟨by omega, by omega⟩
      have hw2 : IntKind.i64.wrap (10 * x + ((s[k].toNat : Int) - 48)) = 10 * x + ((s[k].toNat : Int) - 48) := IntWalk.i64_in _ ⟨by omega, by omega⟩
      have hw3 : IntKind.u8.wrap ((s[k].toNat : Int) - 48) = (s[k].toNat : Int) - 48 := by unfold IntKind.wrap; simp [IntKind.bits, IntKind.signed]; omega
      have hw4 : IntKind.i64.wrap ((s[k].toNat : Int) - 48) = (s[k].toNat : Int) - 48 := IntWalk.i64_in _ ⟨by omega, by omega⟩
      go_wp2_with fail
      have r_q0 := cell_regrown q0
      go_wp2_with fail
      refine wp_region_qb_tail 14 (by kernel_rfl) (by kernel_rfl) ?_
      simp only [List.take_succ_cons, List.take_zero, List.drop_succ_cons, List.drop_zero]
      repeat (go_big_quiet_step (first | fail))
      refine wpQuiet_nil ?_
      intro w3 B3
      have d0 := below_cell B3 q0 (cell_lt q0)
      have f3 : w3.frozen? ⟨g, o + m, none⟩ = false := (frozen_same (B3.block g HM.out.lt) _ _).trans f0
      have HM3 := Lib.hid (HM'.out w3 B3 (10 * x + ((s[k].toNat : Int) - 48)))
      have HB3 : Hid (Below B w1 (w3.setCell ⟨g, o + m, none⟩ (.int .i64 (10 * x + ((s[k].toNat : Int) - 48))))) := (HB.out.trans (B3.mono (by have := HBB.out; omega))).setCell hgB _
      clear q0 f0 HM' HM r_q0
      go_wp2_with fail
      go_roundw
      case rel => exact ⟨k + 1, n, g, o, c, l, 10 * x + ((s[k].toNat : Int) - 48), by omega, by go_num, rfl, Hhn2.out, Hst', HM3, HB3⟩
      case measure => simp [intOf]; omega
    · have Hno : Hid (vparse s = none) := Hdd.out (by rw [Hst.out]; unfold pStep; simp only [if_neg hy46]; rw [if_neg]; rintro ⟨⟨a1, a2⟩, a3⟩; rw [← hsk] at a1 a2; exact hd ⟨⟨by omega, by omega⟩, a3⟩)
      obtain ⟨⟨d0, d1, d2⟩, g0, g1, g2⟩ := row3 hrr
      have Hrr := Lib.hid hrr
      have hcs : (s[k].toNat : Int) < 48 ∨ ((48 : Int) ≤ s[k].toNat ∧ (57 : Int) < s[k].toNat) ∨ ((48 : Int) ≤ s[k].toNat ∧ (s[k].toNat : Int) ≤ 57 ∧ 999 < x) := by omega
      clear Hst Hdd hsk hy46 Hy HM' hd
      rcases hcs with q1 | ⟨q1, q2⟩ | ⟨q1, q2, q3⟩
      · have z1 : decide ((48 : Int) ≤ (s[k].toNat : Int)) = false := decide_eq_false (by omega)
        have z2 : ¬ (48 : Int) ≤ (s[k].toNat : Int) := by omega
        have z3 : decide (48 ≤ s[k].toNat) = false := decide_eq_false (by omega)
        go_wp2_with fail
        refine ret_ver rfl rfl rfl rfl (heap_set3 Hrr.out _ _ _) Tryz.underlying23 rfl (by kernel_rfl) ⟨?_, ?_⟩
        · rw [Hno.out]; rfl
        · exact ((Hbw.out.setCell (Nat.le_refl _) _).setCell (Nat.le_refl _) _).setCell (Nat.le_refl _) _
      · have z1 : decide ((s[k].toNat : Int) ≤ 57) = false := decide_eq_false (by omega)
        have z2 : ¬ (s[k].toNat : Int) ≤ 57 := by omega
        have z3 : decide (s[k].toNat ≤ 57) = false := decide_eq_false (by omega)
        go_wp2_with fail
        refine ret_ver rfl rfl rfl rfl (heap_set3 Hrr.out _ _ _) Tryz.underlying23 rfl (by kernel_rfl) ⟨?_, ?_⟩
        · rw [Hno.out]; rfl
        · exact ((Hbw.out.setCell (Nat.le_refl _) _).setCell (Nat.le_refl _) _).setCell (Nat.le_refl _) _
      · have z1 : decide (x ≤ 999) = false := decide_eq_false (by omega)
        have z2 : ¬ x ≤ 999 := by omega
        go_wp2_with fail
        refine ret_ver rfl rfl rfl rfl (heap_set3 Hrr.out _ _ _) Tryz.underlying23 rfl (by kernel_rfl) ⟨?_, ?_⟩
        · rw [Hno.out]; rfl
        · exact ((Hbw.out.setCell (Nat.le_refl _) _).setCell (Nat.le_refl _) _).setCell (Nat.le_refl _) _
end Go.Proofs.YtldjldkejjeamaaGreatDoor
set_option autoImplicit false
set_option relaxedAutoImplicit false
set_option linter.unusedVariables false
set_option linter.unusedSimpArgs false
namespace Go.Proofs.YtldjldkejjeamaaGreatDoor
open Go.Rows Go.RowKit Go.Shelf Go.Sort

theorem begins_eq {s t : ByteArray} : (s.extract 0 t.size = t) ↔ t.data.toList <+: s.data.toList := by
  constructor
  · intro h
    have e : (s.extract 0 t.size).data.toList = t.data.toList := by rw [h]
    rw [Lib.extract_from_zero] at e
    rw [← e]
    exact List.take_prefix _ _
  · intro h
    apply bytes_ext
    rw [Lib.extract_from_zero, size_data t]
    exact (List.prefix_iff_eq_take.1 h).symm
set_option maxRecDepth 100000 in
theorem begins_any (s t : ByteArray) (w : World) (hs : s.size ≤ 1000000) (ht : t.size ≤ 1000000) :
    Calls Tryz.prog 91 #[.string s, .string t] w fun e w' => e = .returned (.bool (t.data.toList.isPrefixOf s.data.toList)) ∧ Below w.heap.size w w' := by
  have hL := size_data s
  have hT := size_data t
  obtain ⟨p, hp⟩ : ∃ p, p = t.data.toList.isPrefixOf s.data.toList := ⟨_, rfl⟩
  rw [← hp]
  have HP := Lib.hid hp
  clear hp
  by_cases hle : t.size ≤ s.size
  · have hI : (t.size : Int) ≤ (s.size : Int) := by omega
    have hD : decide ((t.size : Int) ≤ (s.size : Int)) = true := decide_eq_true hI
    by_cases he : s.extract 0 t.size = t
    · have hb : ((s.extract 0 t.size).toList == t.toList) = true := by rw [he]; simp
      have Hp : Hid (p = true) := HP.out.trans (List.isPrefixOf_iff_prefix.2 (begins_eq.1 he))
      clear he HP hL hT
      go_enter Tryz.func91, Tryz.ntmps91
      go_wp2_with fail
      go_ret
      exact ⟨by rw [Hp.out]; rfl, Below.refl _ _⟩
    · have hb : ((s.extract 0 t.size).toList == t.toList) = false := by
        rw [beq_eq_false_iff_ne]; intro e; exact he (bytes_ext (by rw [Go.ByteArray.toList_eq, Go.ByteArray.toList_eq] at e; exact e))
      have Hp : Hid (p = false) := by
        unfold Hid; rw [HP.out]
        cases h : t.data.toList.isPrefixOf s.data.toList with
        | false => rfl
        | true => exact absurd (begins_eq.2 (List.isPrefixOf_iff_prefix.1 h)) he
      clear he HP hL hT
      go_enter Tryz.func91, Tryz.ntmps91
      go_wp2_with fail
      go_ret
      exact ⟨by rw [Hp.out]; rfl, Below.refl _ _⟩
  · have hI : ¬ (t.size : Int) ≤ (s.size : Int) := by omega
    have hD : decide ((t.size : Int) ≤ (s.size : Int)) = false := decide_eq_false hI
    have hD2 : decide (t.size ≤ s.size) = false := decide_eq_false hle
    have Hp : Hid (p = false) := by
      unfold Hid; rw [HP.out]
      cases h : t.data.toList.isPrefixOf s.data.toList with
      | false => rfl
      | true => have := (List.isPrefixOf_iff_prefix.1 h).length_le; omega
    clear hL hT HP
    go_enter Tryz.func91, Tryz.ntmps91
    go_wp2_with fail
    go_ret
    exact ⟨by rw [Hp.out]; rfl, Below.refl _ _⟩

/-- the spans of what a word tells -/
noncomputable def wsp : Option Rk → List Spn
  | none => []
  | some x => (runL x).map spnAt
theorem refFrom_any (lo hi : Int) (hlo : 0 ≤ lo) (hhi : hi ≤ 999999999) (w : World) :
    Calls Tryz.prog 92 #[.int .i64 lo, .int .i64 hi] w fun e w' => ∃ v, e = .returned v ∧ SlV rSpn w' (fun b => w.heap.size ≤ b) ((runL (lo, hi)).map spnAt) v ∧ Below w.heap.size w w' := by
  by_cases h : lo ≤ hi
  · have hI : ¬ hi < lo := by omega
    have Hr : Hid ((runL (lo, hi)).map spnAt = [⟨verAt lo, verAt hi⟩]) := by unfold Hid; rw [runL_yes h]; rfl
    have H1 := Lib.hid (fun W => refAt03_any lo hlo (by omega) W)
    have H2 := Lib.hid (fun W => refAt03_any hi (by omega) hhi W)
    have Hi1 := Lib.hid (verAt_i64 hlo (by omega : lo ≤ 999999999))
    have Hi2 := Lib.hid (verAt_i64 (by omega : 0 ≤ hi) hhi)
    have Hv1 : Hid (verAt lo = ⟨lo / 1000 / 1000, lo / 1000 % 1000, lo % 1000⟩) := rfl
    have Hv2 : Hid (verAt hi = ⟨hi / 1000 / 1000, hi / 1000 % 1000, hi % 1000⟩) := rfl
    generalize (runL (lo, hi)).map spnAt = R at *
    generalize verAt lo = u1 at *
    generalize verAt hi = u2 at *
    generalize lo / 1000 / 1000 = a1 at *
    generalize lo / 1000 % 1000 = a2 at *
    generalize lo % 1000 = a3 at *
    generalize hi / 1000 / 1000 = b1 at *
    generalize hi / 1000 % 1000 = b2 at *
    generalize hi % 1000 = b3 at *
    clear hlo hhi h
    go_enter Tryz.func92, Tryz.ntmps92
    go_wp2_with fail
    refine (H1.out _).mono ?_
    rintro e w1 ⟨rfl, hb1⟩
    have HB1 := Lib.hid hb1
    clear hb1
    go_wp2_with fail
    refine (H2.out _).mono ?_
    rintro e w2 ⟨rfl, hb2⟩
    have HB2 := Lib.hid (bot HB1.out hb2)
    have hz := HB2.out.size
    clear hb2
    go_wp2_with fail
    go_ret
    refine ⟨_, rfl, ?_, bal HB2.out _⟩
    rw [Hr.out]
    exact SlV.of_block (g := w2.heap.size) (cs := #[.int .i64 a1, .int .i64 a2, .int .i64 a3, .int .i64 b1, .int .i64 b2, .int .i64 b3]) (heap_alloc_new w2 _) (Elems.one_ (r := rSpn) (x := ⟨u1, u2⟩) (cs := [.int .i64 a1, .int .i64 a2, .int .i64 a3, .int .i64 b1, .int .i64 b2, .int .i64 b3]) (by rw [Hv1.out, Hv2.out]; exact ⟨rfl, Hi1.out.1, Hi1.out.2.1, Hi1.out.2.2, Hi2.out.1, Hi2.out.2.1, Hi2.out.2.2⟩)) hz rfl (by simp) (by unfold maxLen; decide)
  · have hI : hi < lo := by omega
    have Hr : Hid ((runL (lo, hi)).map spnAt = []) := by unfold Hid; rw [runL_no h]; rfl
    generalize (runL (lo, hi)).map spnAt = R at *
    clear hlo hhi h
    go_enter Tryz.func92, Tryz.ntmps92
    go_wp2_with fail
    go_ret
    exact ⟨_, rfl, by rw [Hr.out]; exact SlV.nil_ _ _ _, Below.refl _ _⟩

/-- the document's signs, in the order in which they are tried -/
def sgB : List ByteArray := [⟨#[60, 61]⟩, ⟨#[62, 61]⟩, ⟨#[60]⟩, ⟨#[62]⟩, ⟨#[61]⟩, ⟨#[94]⟩, ⟨#[126]⟩]
theorem sgB_le (k : Nat) (h : k < sgB.length) : sgB[k].size ≤ 1000000 := by
  have hm := List.getElem_mem h
  generalize sgB[k] = x at *
  unfold sgB at hm
  simp only [List.mem_cons, List.not_mem_nil, or_false] at hm
  rcases hm with rfl | rfl | rfl | rfl | rfl | rfl | rfl <;> decide
theorem sgB_sgs : sgB.map (·.data.toList) = sgs := rfl
/-- the sign found among the first ones -/
def sgUpto (s : List UInt8) (k : Nat) : List UInt8 := ((sgs.take k).find? fun g => g.isPrefixOf s).getD []
theorem sgUpto_all (s : List UInt8) : sgUpto s 7 = refSign s := rfl
theorem sgUpto_next {s : List UInt8} {k : Nat} (hk : k < sgB.length) (h : sgUpto s k = []) : sgUpto s (k + 1) = if (sgB[k].data.toList).isPrefixOf s then sgB[k].data.toList else [] := by
  have hk' : k < sgs.length := hk
  have e : sgs[k] = sgB[k].data.toList := by
    show (sgB.map (·.data.toList))[k]'(by rw [List.length_map]; exact hk) = _
    rw [List.getElem_map]
    rfl
  have hn : (sgs.take k).find? (fun g => g.isPrefixOf s) = none := by
    cases hf : (sgs.take k).find? (fun g => g.isPrefixOf s) with
    | none => rfl
    | some g =>
      exfalso
      unfold sgUpto at h
      rw [hf] at h
      have hm := List.mem_of_mem_take (List.mem_of_find?_eq_some hf)
      have hg : g = [] := h
      subst hg
      exact absurd hm (by decide)
  unfold sgUpto
  rw [List.take_succ_eq_append_getElem hk', List.find?_append, hn, Option.none_or, e]
  generalize sgB[k].data.toList = c at *
  by_cases hp : c.isPrefixOf s = true
  · rw [if_pos hp]; simp [hp]
  · rw [if_neg hp]; simp [hp]
theorem sgUpto_keep {s : List UInt8} {k : Nat} (h : sgUpto s k ≠ []) : refSign s = sgUpto s k := by
  unfold sgUpto at h ⊢
  cases hf : (sgs.take k).find? (fun g => g.isPrefixOf s) with
  | none => rw [hf] at h; exact absurd rfl h
  | some g =>
    unfold refSign
    have : sgs = sgs.take k ++ sgs.drop k := (List.take_append_drop k sgs).symm
    rw [this, List.find?_append, hf]
    rfl
/-- how a sign's bytes compare, as the document asks -/
def Cmp2 (g : List UInt8) (r : Nat) : Prop :=
  (g == [60, 61]) = (r == 0) ∧ (g == [62, 61]) = (r == 1) ∧ (g == [60]) = (r == 2) ∧ (g == [62]) = (r == 3) ∧ (g == [126]) = (r == 4) ∧ (g == [94]) = (r == 5)
theorem ref_cases (s : List UInt8) (v : Ver) :
    (Cmp2 (refSign s) 0 ∧ signRk (refSign s) v = some (0, v.rank)) ∨ (Cmp2 (refSign s) 1 ∧ signRk (refSign s) v = some (v.rank, lastR)) ∨ (Cmp2 (refSign s) 2 ∧ signRk (refSign s) v = some (0, v.rank - 1)) ∨ (Cmp2 (refSign s) 3 ∧ signRk (refSign s) v = some (v.rank + 1, lastR)) ∨
    (Cmp2 (refSign s) 4 ∧ signRk (refSign s) v = some (v.rank, v.rank - v.patch + 999)) ∨ (Cmp2 (refSign s) 6 ∧ signRk (refSign s) v = some (v.rank, v.rank)) ∨
    (Cmp2 (refSign s) 5 ∧ signRk (refSign s) v = (if 0 < v.major then some (v.rank, v.rank - v.patch + 999 + (999 - v.minor) * 1000) else if 0 < v.minor then some (v.rank, v.rank - v.patch + 999) else some (v.rank, v.rank))) := by
  rcases refSign_cases s with h | h | h | h | h | h | h | h <;> rw [h]
  · exact .inl ⟨by unfold Cmp2; decide, rfl⟩
  · exact .inr (.inl ⟨by unfold Cmp2; decide, rfl⟩)
  · exact .inr (.inr (.inl ⟨by unfold Cmp2; decide, rfl⟩))
  · exact .inr (.inr (.inr (.inl ⟨by unfold Cmp2; decide, rfl⟩)))
  · exact .inr (.inr (.inr (.inr (.inr (.inl ⟨by unfold Cmp2; decide, rfl⟩)))))
  · exact .inr (.inr (.inr (.inr (.inr (.inr ⟨by unfold Cmp2; decide, rfl⟩)))))
  · exact .inr (.inr (.inr (.inr (.inl ⟨by unfold Cmp2; decide, rfl⟩))))
  · exact .inr (.inr (.inr (.inr (.inr (.inl ⟨by unfold Cmp2; decide, rfl⟩)))))

set_option maxHeartbeats 4000000 in
set_option maxRecDepth 100000 in
theorem refWord_any (s : ByteArray) (w : World) (hs : s.size ≤ 1000000) :
    Calls Tryz.prog 57 #[.string s] w fun e w' => ∃ v, e = .returned (.tuple #[v, .bool (wordF s).isSome]) ∧ SlV rSpn w' (fun b => w.heap.size ≤ b) (wsp (wordF s)) v ∧ Below w.heap.size w w' := by
  by_cases hst : s = ⟨#[42]⟩
  · have hb : (s.toList == [42]) = true := by rw [hst, Go.ByteArray.toList_eq]; rfl
    have Hw : Hid (wordF s = some (0, lastR)) := by unfold Hid wordF; rw [if_pos hst]
    have Ha := Lib.hid (fun W => refAll_any W)
    clear hst
    go_enter Tryz.func57, Tryz.ntmps57
    go_wp2_with fail
    refine (Ha.out _).mono ?_
    rintro e w1 ⟨v, rfl, hv, hb1⟩
    go_wp2_with fail
    go_ret2
    rw [Hw.out]
    exact ⟨v, rfl, hv, hb1⟩
  have hb : (s.toList == [42]) = false := by
    rw [beq_eq_false_iff_ne]; intro e; exact hst (bytes_ext (by rw [Go.ByteArray.toList_eq] at e; exact e))
  have hwf : wordF s = match vparse (mkB (s.data.toList.drop (refSign s.data.toList).length)) with | none => none | some v => signRk (refSign s.data.toList) v := by
    rw [← refWord_word]; unfold refWord; rw [if_neg hst]
    cases vparse (mkB (s.data.toList.drop (refSign s.data.toList).length)) <;> rfl
  have Hwf := Lib.hid hwf
  have HL := Lib.hid (size_data s)
  clear hst hwf
  go_enter Tryz.func57, Tryz.ntmps57
  go_wp2_with fail
  obtain ⟨w1, hw1⟩ : ∃ w1, w1 = w.alloc (.cells #[.string ⟨#[60, 61]⟩, .string ⟨#[62, 61]⟩, .string ⟨#[60]⟩, .string ⟨#[62]⟩, .string ⟨#[61]⟩, .string ⟨#[94]⟩, .string ⟨#[126]⟩] 9) := ⟨_, rfl⟩
  have HB1 : Hid (Below w.heap.size w w1) := by unfold Hid; rw [hw1]; exact bal (Below.refl _ _) _
  have HG1 : Hid (SlV rStr w1 (fun b => b < w1.heap.size) sgB (.slice (some ⟨w.heap.size, 0, none⟩) 7 7)) := by
    refine SlV.of_block (g := w.heap.size) (cs := #[.string ⟨#[60, 61]⟩, .string ⟨#[62, 61]⟩, .string ⟨#[60]⟩, .string ⟨#[62]⟩, .string ⟨#[61]⟩, .string ⟨#[94]⟩, .string ⟨#[126]⟩]) (by rw [hw1]; exact heap_alloc_new w _) ?_ (by rw [hw1]; simp) rfl (Nat.le_refl 7) (by unfold maxLen; decide)
    exact elemsS (l := sgB) (fun x hx => by
      unfold sgB at hx
      simp only [List.mem_cons, List.not_mem_nil, or_false] at hx
      rcases hx with rfl | rfl | rfl | rfl | rfl | rfl | rfl <;> (unfold maxLen; decide))
  rw [← hw1]
  clear hw1
  have Hbg : Hid (∀ (k : Nat) (h : k < sgB.length) W, Calls Tryz.prog 91 #[.string s, .string sgB[k]] W fun e w' => e = .returned (.bool ((sgB[k].data.toList).isPrefixOf s.data.toList)) ∧ Below W.heap.size W w') := fun k h W =>
    begins_any s _ W hs (sgB_le k h)
  go_loopw [5, 6] (fun v i wr => ∃ (k : Nat) (g : ByteArray), k ≤ 7 ∧ i = .int .i64 k ∧ v = .string g ∧ Hid (g.data.toList = sgUpto s.data.toList k) ∧ Hid (Below w1.heap.size w1 wr)) (fun _ i _ => 7 - (intOf i).toNat)
  case atStart => exact ⟨0, ⟨#[]⟩, Nat.zero_le _, rfl, rfl, rfl, Below.refl _ _⟩
  case round =>
    obtain ⟨k, g, hk, rfl, rfl, Hg, HB⟩ := hrel
    by_cases hgo : k < 7 ∧ g = ⟨#[]⟩
    · obtain ⟨hlt, rfl⟩ := hgo
      have hkI : (k : Int) < 7 := by omega
      have hk0 : (0 : Int) ≤ (k : Int) := by omega
      have hkx : k < sgB.length := hlt
      have hge : ((⟨#[]⟩ : ByteArray).toList == []) = true := by rw [Go.ByteArray.toList_eq]; rfl
      have hlw := HG1.out.below HB.out (fun b hb => hb)
      obtain ⟨pb, po, cs, he, hpS, _, ⟨rfl, _⟩, hcell⟩ := hlw.elem (List.getElem?_eq_getElem hkx)
      simp only [Option.some.injEq, Addr.mk.injEq] at he
      obtain ⟨rfl, rfl, _⟩ := he
      have c0 := hcell 0 _ rfl
      simp only [rStr, Nat.add_zero, Nat.mul_one, Nat.zero_add] at c0
      clear hcell
      have hup : sgUpto s.data.toList k = [] := Hg.out.symm
      have Hnx := Lib.hid (sgUpto_next hkx hup)
      have Hb := Lib.hid (Hbg.out k hkx)
      clear hlw hup Hg
      generalize sgB[k] = x at *
      generalize hp : x.data.toList.isPrefixOf s.data.toList = p at *
      have d0 := below_cell (B := wr.heap.size) (Below.refl _ _) c0 (cell_lt c0)
      go_wp2_with fail
      refine (Hb.out _).mono ?_
      rintro e w3 ⟨rfl, hb3⟩
      have HB3 := Lib.hid (HB.out.trans (hb3.mono HB.out.size))
      have c3 := below_cell hb3 c0 (cell_lt c0)
      clear hb3 c0 d0 HB
      cases p with
      | true =>
        rw [if_pos rfl] at Hnx
        go_wp2_with fail
        go_roundw
        case rel => exact ⟨k + 1, x, by omega, by go_num, rfl, Hnx.out.symm, HB3.out⟩
        case measure => simp [intOf]; omega
      | false =>
        rw [if_neg (by decide)] at Hnx
        go_wp2_with fail
        go_roundw
        case rel => exact ⟨k + 1, ⟨#[]⟩, by omega, by go_num, rfl, Hnx.out.symm, HB3.out⟩
        case measure => simp [intOf]; omega
    · have hex : refSign s.data.toList = g.data.toList := by
        by_cases he : g = ⟨#[]⟩
        · have hk7 : k = 7 := Classical.byContradiction fun hn => hgo ⟨by omega, he⟩
          rw [Hg.out, hk7]; rfl
        · rw [Hg.out]; exact sgUpto_keep (fun e => he (bytes_ext (by rw [Hg.out, e])))
      have hgz : g.size ≤ s.size := by
        rw [size_data g, size_data s, ← hex]; exact (refSign_prefix _).length_le
      have hcs : k = 7 ∨ (k < 7 ∧ (g.toList == []) = false) := by
        by_cases hk7 : k = 7
        · exact .inl hk7
        · refine .inr ⟨by omega, ?_⟩
          rw [beq_eq_false_iff_ne]
          intro e
          exact hgo ⟨by omega, bytes_ext (by rw [Go.ByteArray.toList_eq] at e; exact e)⟩
      have hdr : mkB (s.data.toList.drop g.size) = s.extract g.size s.size := bytes_ext (by rw [Lib.extract_to_end]; rfl)
      have hwf := Hwf.out
      rw [hex, ← size_data g, hdr] at hwf
      have hez : (s.extract g.size s.size).size ≤ 1000000 := by rw [ByteArray.size_extract]; omega
      have Hp : Hid (∀ W, Calls Tryz.prog 52 #[.string (s.extract g.size s.size)] W fun e w' => e = .returned (.tuple #[verV ((vparse (s.extract g.size s.size)).getD ⟨0, 0, 0⟩), .bool (vparse (s.extract g.size s.size)).isSome]) ∧ Below W.heap.size W w') := fun W => refVParse_any _ W hez
      have hus : ∃ u : Ver, u = (vparse (s.extract g.size s.size)).getD ⟨0, 0, 0⟩ ∧ u.ok = true := by
        cases h : vparse (s.extract g.size s.size) with
        | none => exact ⟨_, rfl, rfl⟩
        | some v => exact ⟨_, rfl, (vparse_is h).1⟩
      obtain ⟨u, hu, huok⟩ := hus
      have Hr : Hid (∀ W, Calls Tryz.prog 61 #[.agg #[.int .i64 u.major, .int .i64 u.minor, .int .i64 u.patch]] W fun e w' => e = .returned (.int .i64 u.rank) ∧ Below W.heap.size W w') := fun W => refRank_any u.major u.minor u.patch W
      rw [← hu] at Hp
      have HwN : Hid (vparse (s.extract g.size s.size) = none → wordF s = none) := fun h2 => by rw [hwf, h2]
      have HwS : Hid ((vparse (s.extract g.size s.size)).isSome = true → wordF s = signRk g.data.toList u) := fun h2 => by
        obtain ⟨v, hv⟩ := Option.isSome_iff_exists.1 h2
        rw [hv] at hu
        rw [hwf, hv, hu]; rfl
      have Hw0 : Hid ((wordF s).isSome = true ∨ wordF s = none) := by
        cases wordF s with
        | none => exact .inr rfl
        | some x => exact .inl rfl
      obtain ⟨⟨a0, a1⟩, ⟨b0, b1⟩, c0, c1⟩ := verB_iff.1 (show verB u.major u.minor u.patch = true from huok)
      have hrk : 0 ≤ u.rank ∧ u.rank ≤ 999999999 := by rw [u.rank_ok huok]; exact rank_bounds huok
      have hrv : u.rank = (u.major * 1000 + u.minor) * 1000 + u.patch := u.rank_ok huok
      have Hsg := Lib.hid (ref_cases s.data.toList u)
      rw [hex] at Hsg
      have Hfr : Hid (∀ lo hi W, 0 ≤ lo → hi ≤ 999999999 → Calls Tryz.prog 92 #[.int .i64 lo, .int .i64 hi] W fun e w' => ∃ v, e = .returned v ∧ SlV rSpn w' (fun b => W.heap.size ≤ b) ((runL (lo, hi)).map spnAt) v ∧ Below W.heap.size W w') := fun lo hi W h0 h1 => refFrom_any lo hi h0 h1 W
      have Hnil : Hid ((vparse (s.extract g.size s.size)).isSome = false → vparse (s.extract g.size s.size) = none) := fun h => by simpa using h
      have hgz' : (g.size : Int) ≤ (s.size : Int) := by omega
      clear hu huok hwf Hwf hex Hg hgo hdr hez Hbg HL
      generalize (vparse (s.extract g.size s.size)).isSome = ok at *
      generalize hse : s.extract g.size s.size = sx at *
      obtain ⟨M, m, p⟩ := u
      simp only at a0 a1 b0 b1 c0 c1 hrk hrv Hsg Hr Hp HwS
      obtain ⟨n, hn⟩ : ∃ n, n = Ver.rank ⟨M, m, p⟩ := ⟨_, rfl⟩
      rw [← hn] at hrk hrv Hsg Hr
      clear hn
      unfold verV at Hp
      simp only at Hp
      obtain ⟨q, hq⟩ : ∃ q, q = m * 1000 + p := ⟨_, rfl⟩
      have hm1 : n % 1000 = p := by omega
      have hm2 : n % 1000000 = q := by omega
      have e1 : IntKind.i64.wrap (n - p) = n - p := IntWalk.i64_in _ ⟨by omega, by omega⟩
      have e2 : IntKind.i64.wrap (n - p + 999) = n - p + 999 := IntWalk.i64_in _ ⟨by omega, by omega⟩
      have e3 : IntKind.i64.wrap (n - q) = n - q := IntWalk.i64_in _ ⟨by omega, by omega⟩
      have e4 : IntKind.i64.wrap (n - q + 999999) = n - q + 999999 := IntWalk.i64_in _ ⟨by omega, by omega⟩
      have e6 : IntKind.i64.wrap (n - 1) = n - 1 := IntWalk.i64_in _ ⟨by omega, by omega⟩
      have e7 : IntKind.i64.wrap (n + 1) = n + 1 := IntWalk.i64_in _ ⟨by omega, by omega⟩
      have hmj : n - p + 999 + (999 - m) * 1000 = n - q + 999999 := by omega
      have hr1 : n - p + 999 ≤ 999999999 := by omega
      have hr2 : n - q + 999999 ≤ 999999999 := by omega
      have HBw : Hid (Below w.heap.size w wr) := HB1.out.trans (HB.out.mono HB1.out.size)
      obtain ⟨hrk0, hrk1⟩ := hrk
      simp only [hmj] at Hsg
      clear HB HB1 HG1 hrv hq a1 b1 c0 c1 hmj
      cases ok with
      | false =>
        have Hw : Hid (wordF s = none) := HwN.out (Hnil.out rfl)
        clear HwN HwS Hnil Hsg
        rcases hcs with rfl | ⟨hk7, hge⟩
        all_goals
          go_wp2_with fail
          refine (Hp.out _).mono ?_
          rintro e w2 ⟨rfl, hb2⟩
          have HB2 := Lib.hid (bot HBw.out hb2)
          clear hb2
          go_wp2_with fail
          go_ret2
          rw [Hw.out]
          exact ⟨_, rfl, SlV.nil_ _ _ _, bal HB2.out _⟩
      | true =>
        have Hw := Lib.hid (HwS.out rfl)
        clear HwN HwS Hnil
        rcases hcs with rfl | ⟨hk7, hge⟩
        all_goals
          go_wp2_with fail
          refine (Hp.out _).mono ?_
          rintro e w2 ⟨rfl, hb2⟩
          have HB2 := Lib.hid (bot HBw.out hb2)
          clear hb2
          go_wp2_with fail
          refine (Hr.out _).mono ?_
          rintro e w4 ⟨rfl, hb4⟩
          have HB4 := Lib.hid (bot HB2.out (bnew hb4))
          have hn4 : w4.heap[w2.heap.size]? = some (.cells #[.int .i64 M, .int .i64 m, .int .i64 p] 23 (0, 0)) := (hb4.block _ (by simp)).trans (heap_alloc_new _ _)
          obtain ⟨⟨v0, v1, v2⟩, _⟩ := row3 hn4
          have hz4 := HB4.out.size
          clear hb4 hn4 HB2
          have htl : ∀ l : List UInt8, (g.toList == l) = (g.data.toList == l) := fun l => by rw [Go.ByteArray.toList_eq]
          rcases Hsg.out with ⟨hc, hr⟩ | ⟨hc, hr⟩ | ⟨hc, hr⟩ | ⟨hc, hr⟩ | ⟨hc, hr⟩ | ⟨hc, hr⟩ | ⟨hc, hr⟩
          rotate_left 6
          · rw [hr] at Hw
            clear hr
            unfold Cmp2 at hc
            simp only [← htl] at hc
            simp only [Nat.reduceBEq] at hc
            obtain ⟨g0, g1, g2, g3, g4, g5⟩ := hc
            clear htl Hsg
            by_cases hM : 0 < M
            · rw [if_pos hM] at Hw
              go_wp2_with fail
              refine (Hfr.out _ _ _ (by omega) (by omega)).mono ?_
              rintro e w5 ⟨v, rfl, hv, hb5⟩
              go_wp2_with fail
              go_ret2
              rw [Hw.out]
              exact ⟨v, rfl, hv.more fun b hb _ => Nat.le_trans hz4 hb, bot HB4.out hb5⟩
            · rw [if_neg hM] at Hw
              by_cases hm : 0 < m
              · rw [if_pos hm] at Hw
                go_wp2_with fail
                refine (Hfr.out _ _ _ (by omega) (by omega)).mono ?_
                rintro e w5 ⟨v, rfl, hv, hb5⟩
                go_wp2_with fail
                go_ret2
                rw [Hw.out]
                exact ⟨v, rfl, hv.more fun b hb _ => Nat.le_trans hz4 hb, bot HB4.out hb5⟩
              · rw [if_neg hm] at Hw
                go_wp2_with fail
                refine (Hfr.out _ _ _ (by omega) (by omega)).mono ?_
                rintro e w5 ⟨v, rfl, hv, hb5⟩
                go_wp2_with fail
                go_ret2
                rw [Hw.out]
                exact ⟨v, rfl, hv.more fun b hb _ => Nat.le_trans hz4 hb, bot HB4.out hb5⟩
          all_goals
            rw [hr] at Hw
            unfold Cmp2 at hc
            simp only [← htl] at hc
            simp only [Nat.reduceBEq] at hc
            obtain ⟨g0, g1, g2, g3, g4, g5⟩ := hc
            clear hr htl Hsg
            go_wp2_with fail
            refine (Hfr.out _ _ _ (by omega) (by omega)).mono ?_
            rintro e w5 ⟨v, rfl, hv, hb5⟩
            go_wp2_with fail
            go_ret2
            rw [Hw.out]
            exact ⟨v, rfl, hv.more fun b hb _ => Nat.le_trans hz4 hb, bot HB4.out hb5⟩
end Go.Proofs.YtldjldkejjeamaaGreatDoor
set_option autoImplicit false
set_option relaxedAutoImplicit false
set_option linter.unusedVariables false
set_option linter.unusedSimpArgs false
namespace Go.Proofs.YtldjldkejjeamaaGreatDoor
open Go.Rows Go.RowKit Go.Shelf Go.Sort

/-- the bytes from a place to another one -/
def cut (s : List UInt8) (b k : Nat) : List UInt8 := (s.take k).drop b
theorem cutl_self (s : List UInt8) (k : Nat) : cut s k k = [] := by unfold cut; rw [List.drop_eq_nil_of_le]; rw [List.length_take]; omega
theorem cutl_next {s : List UInt8} {b k : Nat} (hb : b ≤ k) (hk : k < s.length) : cut s b (k + 1) = cut s b k ++ [s[k]] := by
  unfold cut
  rw [List.take_succ_eq_append_getElem hk, List.drop_append_of_le_length (by rw [List.length_take]; omega)]
theorem cutl_extract {s : ByteArray} {b k : Nat} (hk : k ≤ s.size) : s.extract b k = mkB (cut s.data.toList b k) := by
  apply bytes_ext
  rw [mkB_data]
  unfold cut
  rw [show (s.extract b k).data.toList = (s.data.toList.take k).drop b from by
    simp [ByteArray.data_extract, Array.toList_extract, List.extract_eq_take_drop, List.drop_take]]
theorem dropL_at {s : ByteArray} {k : Nat} (hk : k < s.size) : s.data.toList.drop k = s[k] :: s.data.toList.drop (k + 1) := byte_at s k hk
theorem cutl_nextB {s : ByteArray} {b k : Nat} (hb : b ≤ k) (hk : k < s.size) : cut s.data.toList b (k + 1) = cut s.data.toList b k ++ [s[k]] := by
  have h' : k < s.data.toList.length := by rw [← size_data]; exact hk
  rw [cutl_next hb h']
  have e : s.data.toList[k] = s[k] := by
    have := byte_at s k hk
    rw [List.drop_eq_getElem_cons h'] at this
    exact (List.cons.inj this).1
  rw [e]
theorem cutl_end {s : ByteArray} {b : Nat} {k : Nat} (hb : b ≤ k) : cut s.data.toList b k ++ s.data.toList.drop k = s.data.toList.drop b := by
  unfold cut
  by_cases h : k ≤ s.data.toList.length
  · conv => rhs; rw [← List.take_append_drop k s.data.toList]
    rw [List.drop_append_of_le_length (by rw [List.length_take]; omega)]
  · rw [List.take_of_length_le (by omega), List.drop_eq_nil_of_le (by omega : s.data.toList.length ≤ k), List.append_nil]
theorem elt_strA : Elt Tryz.prog 9 1 16 := Elt.mk' (z := .string ⟨#[]⟩) (by kernel_rfl) rfl (by decide)

set_option maxHeartbeats 4000000 in
set_option maxRecDepth 100000 in
theorem alternatives_any (s : ByteArray) (w : World) (hs : s.size ≤ 1000000) :
    Calls Tryz.prog 54 #[.string s] w fun e w' => ∃ v, e = .returned v ∧ SlV rStr w' (fun b => w.heap.size ≤ b) ((altL [] s.data.toList).map mkB) v ∧ Below w.heap.size w w' := by
  obtain ⟨F, hF⟩ : ∃ F, F = altL [] s.data.toList := ⟨_, rfl⟩
  rw [← hF]
  have HF0 : Hid (F = [] ++ altL (cut s.data.toList 0 0) (s.data.toList.drop 0)) := by unfold Hid; rw [hF, cutl_self]; rfl
  have HL := Lib.hid (size_data s)
  clear hF
  go_enter Tryz.func54, Tryz.ntmps54
  go_wp2_with fail
  go_loopw [3, 4, 5] (fun v b i wr => ∃ (k bg : Nat) (done : List (List UInt8)), k ≤ s.size ∧ bg ≤ k ∧ i = .int .i64 k ∧ b = .int .i64 bg ∧ done.length ≤ k ∧ Hid (F = done ++ altL (cut s.data.toList bg k) (s.data.toList.drop k)) ∧ Hid (Own rStr wr w.heap.size 9 v (done.map mkB) (fun _ => False)) ∧ Hid (Below w.heap.size w wr)) (fun _ _ i _ => s.size - (intOf i).toNat)
  case atStart => exact ⟨0, 0, [], Nat.zero_le _, Nat.le_refl _, rfl, rfl, Nat.le_refl _, HF0, Own.nil_ _ _ _ _ (fun b hb => hb.elim), Below.refl _ _⟩
  case round =>
    clear HF0
    obtain ⟨k, bg, done, hk, hbk, rfl, rfl, hdl, Hm, Hown, HB⟩ := hrel
    have hw1 : IntKind.i64.wrap ((k : Int) + 1) = (k : Int) + 1 := IntWalk.i64_in _ ⟨by omega, by omega⟩
    have hzr := HB.out.size
    by_cases hlt : k + 1 < s.size
    · have hkI : (k : Int) + 1 < (s.size : Int) := by omega
      have hk0 : (0 : Int) ≤ (k : Int) := by omega
      have hk1 : (0 : Int) ≤ (k : Int) + 1 := by omega
      have hkI0 : (k : Int) < (s.size : Int) := by omega
      have hd1 := dropL_at (s := s) (k := k) (by omega)
      have hd2 := dropL_at (s := s) (k := k + 1) hlt
      by_cases h1 : s[k] = 124
      · have t1 : ((s[k].toNat : Int) == 124) = true := by rw [h1]; rfl
        by_cases h2 : s[k + 1] = 124
        · have t2 : ((s[k + 1].toNat : Int) == 124) = true := by rw [h2]; rfl
          have Hm2 : Hid (F = (done ++ [cut s.data.toList bg k]) ++ altL (cut s.data.toList (k + 2) (k + 2)) (s.data.toList.drop (k + 2))) := by
            unfold Hid
            rw [Hm.out, hd1, hd2, h1, h2, altL_bars, cutl_self, List.append_assoc]; rfl
          have Hx := Lib.hid (cutl_extract (s := s) (b := bg) (k := k) hk)
          have Hlen : Hid ((done.map mkB).length = done.length) := List.length_map _
          have Hmp : Hid ((done ++ [cut s.data.toList bg k]).map mkB = done.map mkB ++ [s.extract bg k]) := by unfold Hid; rw [List.map_append, Hx.out]; rfl
          have Hle : Hid ((done ++ [cut s.data.toList bg k]).length = done.length + 1) := by unfold Hid; simp
          have hxs : (s.extract bg k).size ≤ maxLen := by rw [ByteArray.size_extract]; unfold maxLen; omega
          generalize done ++ [cut s.data.toList bg k] = done2 at *
          generalize hdm : done.map mkB = dm at *
          have Hxs := Lib.hid hxs
          clear Hm hd1 hd2 h1 h2 Hx hxs hdm
          have hbI : (bg : Int) ≤ (k : Int) := by omega
          have hw2 : IntKind.i64.wrap ((k : Int) + 2) = ((k + 2 : Nat) : Int) := by rw [IntWalk.i64_in _ ⟨by omega, by omega⟩]; omega
          go_wp2_with (at_builtin; refine wpList_push (by rfl) _ _ _ (by rfl) elt_strA Tryz.underlying61 (by rfl) (Hown.out.alloc _) ⟨wr.heap.size, 0, none⟩ 1 [.string (s.extract bg k)] (s.extract bg k) (by rfl) ⟨rfl, Hxs.out⟩ (news_of wr #[.string (s.extract bg k)] _) (by rw [Hlen.out]; unfold maxLen; omega) (by rw [Hlen.out]; omega) (by simp; omega) (wr.heap.size + 1) (by simp) ?_)
          intro g cap w5 hown5 hgrow5 hat5 hg5
          have HB5 := Lib.hid (bgrown (bal HB.out _) hgrow5 (Hown.out.alloc _) (Nat.le_refl _))
          have Hown5 := Lib.hid hown5
          clear hown5 hgrow5 Hown HB
          go_wp2_with fail
          go_roundw
          case rel => exact ⟨k + 2, k + 2, done2, by omega, Nat.le_refl _, by go_num, by go_num, by rw [Hle.out]; omega, Hm2, by unfold Hid; rw [Hmp.out]; exact Hown5.out, HB5⟩
          case measure => simp [intOf]; omega
        · have t2 : ((s[k + 1].toNat : Int) == 124) = false := by
            rw [beq_eq_false_iff_ne]; intro e; exact h2 (UInt8.toNat_inj.1 (by show s[k + 1].toNat = 124; omega))
          have Hm2 : Hid (F = done ++ altL (cut s.data.toList bg (k + 1)) (s.data.toList.drop (k + 1))) := by
            unfold Hid
            rw [Hm.out, hd1, hd2, altL_next (fun e => h2 e.2), cutl_nextB hbk (by omega)]
          clear Hm hd1 hd2 h1 h2
          go_wp2_with fail
          go_roundw
          case rel => exact ⟨k + 1, bg, done, by omega, by omega, by go_num, rfl, by omega, Hm2, Hown, HB⟩
          case measure => simp [intOf]; omega
      · have t1 : ((s[k].toNat : Int) == 124) = false := by
          rw [beq_eq_false_iff_ne]; intro e; exact h1 (UInt8.toNat_inj.1 (by show s[k].toNat = 124; omega))
        have Hm2 : Hid (F = done ++ altL (cut s.data.toList bg (k + 1)) (s.data.toList.drop (k + 1))) := by
          unfold Hid
          rw [Hm.out, hd1, altL_other h1, cutl_nextB hbk (by omega)]
        clear Hm hd1 hd2 h1
        go_wp2_with fail
        go_roundw
        case rel => exact ⟨k + 1, bg, done, by omega, by omega, by go_num, rfl, by omega, Hm2, Hown, HB⟩
        case measure => simp [intOf]; omega
    · have hkI : ¬ (k : Int) + 1 < (s.size : Int) := by omega
      have Hfin : Hid (F = done ++ [s.data.toList.drop bg]) := by
        unfold Hid
        rw [Hm.out]
        congr 1
        rw [← cutl_end (s := s) hbk]
        have hdl' : (s.data.toList.drop k).length ≤ 1 := by rw [List.length_drop, ← size_data]; omega
        match hq : s.data.toList.drop k, hdl' with
        | [], _ => rw [altL, List.append_nil]
        | [c], _ => rfl
        | c :: d :: t, h => exact absurd h (by simp)
      have Hx : Hid (s.extract bg s.size = mkB (s.data.toList.drop bg)) := bytes_ext (by rw [Lib.extract_to_end]; rfl)
      have Hlen : Hid ((done.map mkB).length = done.length) := List.length_map _
      have Hmp : Hid (F.map mkB = done.map mkB ++ [s.extract bg s.size]) := by unfold Hid; rw [Hfin.out, List.map_append, Hx.out]; rfl
      have hxs : (s.extract bg s.size).size ≤ maxLen := by rw [ByteArray.size_extract]; unfold maxLen; omega
      have Hxs := Lib.hid hxs
      have hbI : (bg : Int) ≤ (s.size : Int) := by omega
      generalize hdm : done.map mkB = dm at *
      clear Hm Hfin Hx hxs hdm
      go_wp2_with (at_builtin; refine wpList_push (by rfl) _ _ _ (by rfl) elt_strA Tryz.underlying61 (by rfl) (Hown.out.alloc _) ⟨wr.heap.size, 0, none⟩ 1 [.string (s.extract bg s.size)] (s.extract bg s.size) (by rfl) ⟨rfl, Hxs.out⟩ (news_of wr #[.string (s.extract bg s.size)] _) (by rw [Hlen.out]; unfold maxLen; omega) (by rw [Hlen.out]; omega) (by simp; omega) (wr.heap.size + 1) (by simp) ?_)
      intro g cap w5 hown5 hgrow5 hat5 hg5
      have HB5 := Lib.hid (bgrown (bal HB.out _) hgrow5 (Hown.out.alloc _) (Nat.le_refl _))
      have Hown5 := Lib.hid hown5
      clear hown5 hgrow5 Hown HB
      go_wp2_with fail
      go_ret
      exact ⟨_, rfl, by rw [Hmp.out]; exact Hown5.out.slvB, HB5.out⟩

/-- the words of a text: its parts between blanks that are not empty -/
def wordsL (l : List UInt8) : List (List UInt8) := (wrdL [] l).filter fun p => !p.isEmpty
theorem wordsL_part {p t : List UInt8} (h : (32 : UInt8) ∉ p) : wordsL (p ++ 32 :: t) = (if p = [] then [] else [p]) ++ wordsL t := by
  unfold wordsL
  rw [wrdL_part p [] t h, List.nil_append, List.filter_cons]
  cases p <;> simp
theorem wordsL_last {p : List UInt8} (h : (32 : UInt8) ∉ p) : wordsL p = (if p = [] then [] else [p]) := by
  unfold wordsL
  rw [wrdL_last p [] h, List.nil_append, List.filter_cons]
  cases p <;> simp

set_option maxHeartbeats 4000000 in
set_option maxRecDepth 100000 in
theorem words_any (s : ByteArray) (w : World) (hs : s.size ≤ 1000000) :
    Calls Tryz.prog 55 #[.string s] w fun e w' => ∃ v, e = .returned v ∧ SlV rStr w' (fun b => w.heap.size ≤ b) ((wordsL s.data.toList).map mkB) v ∧ Below w.heap.size w w' := by
  obtain ⟨F, hF⟩ : ∃ F, F = wordsL s.data.toList := ⟨_, rfl⟩
  rw [← hF]
  have HF0 : Hid (F = [] ++ wordsL (s.data.toList.drop 0)) := by unfold Hid; rw [hF]; rfl
  have HL := Lib.hid (size_data s)
  clear hF
  go_enter Tryz.func55, Tryz.ntmps55
  go_wp2_with fail
  go_loopw [3, 4] (fun v i wr => ∃ (k : Nat) (done : List (List UInt8)), k ≤ s.size + 1 ∧ i = .int .i64 k ∧ done.length ≤ k ∧ Hid (F = done ++ wordsL (s.data.toList.drop k)) ∧ Hid (Own rStr wr w.heap.size 9 v (done.map mkB) (fun _ => False)) ∧ Hid (Below w.heap.size w wr)) (fun _ i _ => s.size + 1 - (intOf i).toNat)
  case atStart => exact ⟨0, [], Nat.zero_le _, rfl, Nat.le_refl _, HF0, Own.nil_ _ _ _ _ (fun b hb => hb.elim), Below.refl _ _⟩
  case round =>
    clear HF0
    obtain ⟨k, done, hk, rfl, hdl, Hm, Hown, HB⟩ := hrel
    by_cases hlt : k < s.size
    case neg =>
      have hkI : ¬ (k : Int) < (s.size : Int) := by omega
      have Hfin : Hid (F = done) := by
        unfold Hid
        rw [Hm.out, List.drop_eq_nil_of_le (by rw [← size_data]; omega)]
        exact List.append_nil _
      clear Hm
      go_wp2_with fail
      go_ret
      exact ⟨_, rfl, by rw [Hfin.out]; exact Hown.out.slvB, HB.out⟩
    have hkI : (k : Int) < (s.size : Int) := by omega
    have hk0 : (0 : Int) ≤ (k : Int) := by omega
    go_wp2_with fail
    obtain ⟨wo, hwo⟩ : ∃ wo : World, wo = wr := ⟨_, rfl⟩
    rw [← hwo] at Hown HB
    have Hwo : Hid (wo = wr) := hwo
    clear hwo
    go_loopw [5] (fun j wx => ∃ m : Nat, k ≤ m ∧ m ≤ s.size ∧ j = .int .i64 m ∧ Hid ((32 : UInt8) ∉ cut s.data.toList k m) ∧ Hid (wx = wo)) (fun j _ => s.size - (intOf j).toNat)
    case atStart => exact ⟨k, Nat.le_refl _, by omega, rfl, by unfold Hid; rw [cutl_self]; simp, Hwo.out.symm⟩
    case round =>
      obtain ⟨m, hkm, hms, rfl, Hno, Hwx⟩ := hrel
      by_cases hend : m < s.size ∧ s[m]! ≠ 32
      · obtain ⟨hm, hne⟩ := hend
        have hget : s[m]! = s[m] := by simp [getElem!_pos, hm]
        rw [hget] at hne
        have hmI : (m : Int) < (s.size : Int) := by omega
        have hm0 : (0 : Int) ≤ (m : Int) := by omega
        have t1 : ((s[m].toNat : Int) != 32) = true := by
          rw [bne_iff_ne]; intro e; exact hne (UInt8.toNat_inj.1 (by show s[m].toNat = 32; omega))
        have t2 : ((s[m].toNat : Int) == 32) = false := by
          rw [beq_eq_false_iff_ne]; intro e; exact hne (UInt8.toNat_inj.1 (by show s[m].toNat = 32; omega))
        have Hno2 : Hid ((32 : UInt8) ∉ cut s.data.toList k (m + 1)) := by
          unfold Hid
          rw [cutl_nextB hkm hm]
          intro h
          rcases List.mem_append.1 h with h | h
          · exact Hno.out h
          · exact hne (List.mem_singleton.1 h).symm
        clear hne hget
        go_wp2_with fail
        go_roundw
        case rel => exact ⟨m + 1, by omega, by omega, by go_num, Hno2, Hwx⟩
        case measure => simp [intOf]; omega
      have hstop : (m = s.size) ∨ (∃ h : m < s.size, s[m] = 32) := by
        by_cases h : m < s.size
        · right
          refine ⟨h, ?_⟩
          refine Classical.byContradiction fun hn => hend ⟨h, ?_⟩
          have hget : s[m]! = s[m] := by simp [getElem!_pos, h]
          rw [hget]; exact hn
        · left; omega
      have Hnext : Hid (wordsL (s.data.toList.drop k) = (if cut s.data.toList k m = [] then [] else [cut s.data.toList k m]) ++ wordsL (s.data.toList.drop (m + 1))) := by
        unfold Hid
        rw [← cutl_end (s := s) hkm]
        rcases hstop with h | ⟨h, hs32⟩
        · rw [List.drop_eq_nil_of_le (by rw [← size_data]; omega), List.append_nil, wordsL_last Hno.out, List.drop_eq_nil_of_le (by rw [← size_data]; omega)]
          exact (List.append_nil _).symm
        · rw [dropL_at h, hs32, wordsL_part Hno.out]
      have hcut0 : k = m → cut s.data.toList k m = [] := fun e => by rw [e, cutl_self]
      have hcut1 : k < m → cut s.data.toList k m ≠ [] := fun e h => by
        have := congrArg List.length h
        unfold cut at this
        rw [List.length_drop, List.length_take, ← size_data] at this
        simp only [List.length_nil] at this
        omega
      have Hc0 := Lib.hid hcut0
      have Hc1 := Lib.hid hcut1
      have hm0 : (0 : Int) ≤ (m : Int) := by omega
      have Hx := Lib.hid (cutl_extract (s := s) (b := k) (k := m) hms)
      have hcase : (¬ (m : Int) < (s.size : Int) ∧ decide ((m : Int) < (s.size : Int)) = false ∧ decide (m < s.size) = false) ∨ ∃ h : m < s.size, (m : Int) < (s.size : Int) ∧ ((s[m].toNat : Int) != 32) = false ∧ ((s[m].toNat : Int) == 32) = true := by
        rcases hstop with h | ⟨h, hs32⟩
        · exact .inl ⟨by omega, decide_eq_false (by omega), decide_eq_false (by omega)⟩
        · exact .inr ⟨h, by omega, by rw [hs32]; rfl, by rw [hs32]; rfl⟩
      have Hm' := Lib.hid (Hm.out.trans (by rw [Hnext.out]))
      clear hcut0 hcut1 hstop Hno hend Hnext Hm
      have hwe := Hwx.out
      subst hwe
      have hzr := HB.out.size
      have hmn : (k : Int) ≤ (m : Int) := by omega
      have hm9 : (m : Int) ≤ (s.size : Int) := by omega
      by_cases hkm2 : k = m
      · subst hkm2
        have hgt : ¬ (k : Int) < (k : Int) := by omega
        have Hm2 : Hid (F = done ++ wordsL (s.data.toList.drop (k + 1))) := by unfold Hid; rw [Hm'.out, if_pos (Hc0.out rfl)]; rfl
        clear Hm' Hc0 Hc1 Hx
        obtain ⟨q0, q1, q2, q3⟩ := hcase.resolve_left fun h => h.1 (by omega)
        go_wp2_with fail
        go_roundw
        case rel => exact ⟨k + 1, done, by omega, by go_num, by omega, Hm2, Hown, HB⟩
        case measure => simp [intOf]; omega
      · have hgt : (k : Int) < (m : Int) := by omega
        have Hm2 : Hid (F = (done ++ [cut s.data.toList k m]) ++ wordsL (s.data.toList.drop (m + 1))) := by unfold Hid; rw [Hm'.out, if_neg (Hc1.out (by omega)), List.append_assoc]
        have Hlen : Hid ((done.map mkB).length = done.length) := List.length_map _
        have Hmp : Hid ((done ++ [cut s.data.toList k m]).map mkB = done.map mkB ++ [s.extract k m]) := by unfold Hid; rw [List.map_append, Hx.out]; rfl
        have Hle : Hid ((done ++ [cut s.data.toList k m]).length = done.length + 1) := by unfold Hid; simp
        have hxs : (s.extract k m).size ≤ maxLen := by rw [ByteArray.size_extract]; unfold maxLen; omega
        have Hxs := Lib.hid hxs
        generalize done ++ [cut s.data.toList k m] = done2 at *
        generalize hdm : done.map mkB = dm at *
        clear Hm' Hc0 Hc1 Hx hxs hdm
        rcases hcase with ⟨q1, q2, q3⟩ | ⟨q0, q1, q2, q3⟩
        all_goals
          go_wp2_with (at_builtin; refine wpList_push (by rfl) _ _ _ (by rfl) elt_strA Tryz.underlying61 (by rfl) (Hown.out.alloc _) ⟨wr.heap.size, 0, none⟩ 1 [.string (s.extract k m)] (s.extract k m) (by rfl) ⟨rfl, Hxs.out⟩ (news_of wr #[.string (s.extract k m)] _) (by rw [Hlen.out]; unfold maxLen; omega) (by rw [Hlen.out]; omega) (by simp; omega) (wr.heap.size + 1) (by simp) ?_)
          intro g cap w5 hown5 hgrow5 hat5 hg5
          have HB5 := Lib.hid (bgrown (bal HB.out _) hgrow5 (Hown.out.alloc _) (Nat.le_refl _))
          have Hown5 := Lib.hid hown5
          clear hown5 hgrow5 Hown HB
          go_wp2_with fail
          go_roundw
          case rel => exact ⟨m + 1, done2, by omega, by go_num, by rw [Hle.out]; omega, Hm2, by unfold Hid; rw [Hmp.out]; exact Hown5.out, HB5⟩
          case measure => simp [intOf]; omega
end Go.Proofs.YtldjldkejjeamaaGreatDoor
set_option autoImplicit false
set_option relaxedAutoImplicit false
set_option linter.unusedVariables false
set_option linter.unusedSimpArgs false
namespace Go.Proofs.YtldjldkejjeamaaGreatDoor
open Go.Rows Go.RowKit Go.Shelf Go.Sort

theorem spn_in0 {o : Rk} (h0 : 0 ≤ o.1) (h1 : o.2 ≤ lastR) : rks ((runL o).map spnAt) = runL o := rks_spn (runL_in0 h0 h1)
theorem fit_run {o : Rk} (h0 : 0 ≤ o.1) (h1 : o.2 ≤ lastR) : fitR (runL o) = ((runL o).map spnAt, 0) := by
  unfold fitR
  rw [if_pos (Nat.le_trans (runL_len o) (by decide))]
/-- the words alone tell what an alternative's parts tell -/
theorem stepW_words : ∀ (l : List (List UInt8)) (st : Option (Rk × Bool)), (l.map mkB).foldl stepW st = ((l.filter fun p => !p.isEmpty).map mkB).foldl stepW st := by
  intro l
  induction l with
  | nil => intro st; rfl
  | cons p l ih =>
    intro st
    rw [List.map_cons, List.foldl_cons, List.filter_cons]
    cases p with
    | nil => rw [stepW_empty]; exact ih st
    | cons c p => exact ih _
theorem innL_words (cs : List UInt8) : innL cs = ((wordsL cs).map mkB).foldl stepW (some ((0, lastR), false)) := by
  unfold innL innF wordsL
  exact stepW_words _ _
theorem words_ne {cs w : List UInt8} (h : w ∈ wordsL cs) : mkB w ≠ ⟨#[]⟩ := by
  unfold wordsL at h
  have := (List.mem_filter.1 h).2
  intro e
  have e' : w = [] := congrArg (·.data.toList) e
  subst e'
  exact absurd this (by decide)
theorem stepW_bad {o : Rk} {b : Bool} {s : ByteArray} (hs : s ≠ ⟨#[]⟩) (h : wordF s = none) : stepW (some (o, b)) s = none := by
  unfold stepW; simp only [if_neg hs, h]
/-- an alternative: what its words leave -/
theorem stepA_alt {all : List Rk} {p : List UInt8} : stepA (some all) (mkB p) = match ((wordsL p).map mkB).foldl stepW (some ((0, lastR), false)) with
    | none => none
    | some (o, b) => if b = false then none else some (all ++ runL o) := by
  rw [← innL_words]
  have e : stepA (some all) (mkB p) = match innL p with | none => none | some (o, b) => if b = false then none else if o.1 ≤ o.2 then some (all ++ [o]) else some all := by
    rw [← mkB_data p, ← innL_spl]; rfl
  rw [e]
  cases innL p with
  | none => rfl
  | some q =>
    obtain ⟨o, b⟩ := q
    simp only
    by_cases hb : b = false
    · rw [if_pos hb, if_pos hb]
    · rw [if_neg hb, if_neg hb]
      by_cases hle : o.1 ≤ o.2
      · rw [if_pos hle, runL_yes hle]
      · rw [if_neg hle, runL_no hle, List.append_nil]

set_option maxHeartbeats 4000000 in
set_option maxRecDepth 100000 in
theorem refParse_any (t : ByteArray) (w : World) (hs : t.size ≤ 4611686018427387904) :
    Calls Tryz.prog 23 #[.string t] w fun e w' => ∃ v, e = .returned (.tuple #[v, .int .i64 (parseQ t).2]) ∧ SlV rSpn w' (fun b => w.heap.size ≤ b) (parseQ t).1 v ∧ Below w.heap.size w w' := by
  by_cases hbig : 4096 < t.size
  · have Hq : Hid (parseQ t = ([], 21)) := by unfold Hid parseQ parseS; rw [if_pos hbig]
    have hbigI : (4096 : Int) < (t.size : Int) := by omega
    go_enter Tryz.func23, Tryz.ntmps23
    go_wp2_with fail
    go_ret2
    rw [Hq.out]
    exact ⟨_, rfl, SlV.nil_ _ _ _, Below.refl _ _⟩
  have hbigI : ¬ (4096 : Int) < (t.size : Int) := by omega
  obtain ⟨L, hL⟩ : ∃ L, L = altL [] t.data.toList := ⟨_, rfl⟩
  have hps : parseS t = (L.map mkB).foldl stepA (some []) := by unfold parseS; rw [if_neg hbig, spl_bars, hL]; rfl
  have HqN : Hid ((L.map mkB).foldl stepA (some []) = none → parseQ t = ([], 21)) := fun h => by unfold parseQ; rw [hps, h]
  have HqS : Hid (∀ all, (L.map mkB).foldl stepA (some []) = some all → parseQ t = fitR (foldedF 106 all []) ∧ In0 all) := fun all h => by
    have hin := (altsF_in0 (L.map mkB) h).1
    refine ⟨?_, hin⟩
    unfold parseQ; rw [hps, h, fold_all hin]
  have Halt : Hid (∀ W, Calls Tryz.prog 54 #[.string t] W fun e w' => ∃ v, e = .returned v ∧ SlV rStr w' (fun b => W.heap.size ≤ b) (L.map mkB) v ∧ Below W.heap.size W w') := fun W => by
    rw [hL]; exact alternatives_any t W (by omega)
  have hsp := spl_bars t
  rw [← hL] at hsp
  have HLl : Hid (L.length ≤ 4097) := by
    have h1 := splitB_len barsB t.size t
    have h2 := congrArg List.length hsp
    rw [List.length_map] at h2
    unfold spl at h2
    unfold Hid; omega
  have HLs : Hid (∀ x ∈ L.map mkB, x.size ≤ 4096) := fun x hx => by rw [← hsp] at hx; have := splitB_le barsB _ _ _ hx; omega
  have HBd : Hid (∀ k all, ((L.map mkB).take k).foldl stepA (some []) = some all → In0 all ∧ all.length ≤ 4097) := fun k all h => by
    obtain ⟨h1, h2⟩ := altsF_in0 _ h
    refine ⟨h1, Nat.le_trans h2 ?_⟩
    rw [List.length_take, List.length_map]
    have := HLl.out; omega
  have HML : Hid ((L.map mkB).length = L.length) := List.length_map _
  have Hwords : Hid (∀ (k : Nat) (h : k < L.length) W, Calls Tryz.prog 55 #[.string (mkB L[k])] W fun e w' => ∃ v, e = .returned v ∧ SlV rStr w' (fun b => W.heap.size ≤ b) ((wordsL L[k]).map mkB) v ∧ Below W.heap.size W w') := fun k h W => by
    have := HLs.out (mkB L[k]) (List.mem_map.2 ⟨_, List.getElem_mem h, rfl⟩)
    exact words_any (mkB L[k]) W (by omega)
  clear hsp hps hbig
  go_enter Tryz.func23, Tryz.ntmps23
  go_wp2_with fail
  refine (Halt.out _).mono ?_
  rintro e w1 ⟨v1, rfl, hv1, hb1⟩
  obtain ⟨A1, c1, rfl, _, _⟩ := hv1.val
  rw [HML.out] at hv1 ⊢
  have HV1 := Lib.hid (hv1.more (S' := fun b => b < w1.heap.size) fun b _ h => h)
  have HB1 := Lib.hid hb1
  clear hv1 hb1 Halt
  obtain ⟨ln, hln⟩ : ∃ ln, ln = L.length := ⟨_, rfl⟩
  rw [← hln] at HV1 ⊢
  have Hln := Lib.hid hln
  have hl5 : ln ≤ 4097 := by have := HLl.out; omega
  clear hln
  go_wp2_with fail
  go_loopw [4, 6] (fun v i wr => ∃ (k : Nat) (all : List Rk) (S : Nat → Prop), k ≤ ln ∧ i = .int .i64 k ∧ Hid (((L.map mkB).take k).foldl stepA (some []) = some all) ∧ Hid (Own rSpn wr w1.heap.size 40 v (all.map spnAt) S) ∧ Hid (Below w1.heap.size w1 wr)) (fun _ i _ => ln - (intOf i).toNat)
  case atStart => exact ⟨0, [], fun _ => False, Nat.zero_le _, rfl, rfl, Own.nil_ _ _ _ _ (fun b hb => hb.elim), Below.refl _ _⟩
  case round =>
    obtain ⟨k, all, S, hk, rfl, Hst, Hown, HB⟩ := hrel
    have HBw : Hid (Below w.heap.size w wr) := bot HB1.out HB.out
    obtain ⟨hin, hal⟩ := HBd.out k all Hst.out
    have Hin := Lib.hid hin
    clear hin
    by_cases hlt : k < ln
    case neg =>
      obtain rfl : k = ln := by omega
      have hlt' : ¬ (k : Int) < (k : Int) := by omega
      have hst := Hst.out
      rw [Hln.out, ← HML.out, List.take_length] at hst
      obtain ⟨hq, _⟩ := HqS.out all hst
      have hs := Hown.out.slv
      obtain ⟨A3, c3, rfl, _, _⟩ := hs.val
      obtain ⟨z, hz⟩ : ∃ z, z = (all.map spnAt).length := ⟨_, rfl⟩
      have hrk : rks (all.map spnAt) = all := rks_spn Hin.out
      rw [← hz] at hs ⊢
      have hfo := folded_any 106 (by decide) A3 none z 0 c3 0 (all.map spnAt) [] wr _ (fun _ => True) hs (SlV.nil_ _ _ _) (by rw [hrk]; exact Hin.out) (fun x hx => by cases hx) (by rw [List.length_map]; omega) (by decide)
      rw [hrk] at hfo
      rw [show rks [] = [] from rfl, ← hq] at hfo
      have Hfo := Lib.hid hfo
      clear hfo hq hst hs hrk Hst Hown HqN HqS HBd Hwords hz
      go_wp2_with fail
      refine Hfo.out.mono ?_
      rintro e w3 ⟨v3, rfl, hv3, hb3⟩
      go_wp2_with fail
      go_ret2
      exact ⟨v3, rfl, hv3.more fun b hb _ => Nat.le_trans HBw.out.size hb, bot HBw.out hb3⟩
    have hkI : (k : Int) < (ln : Int) := by omega
    have hk0 : (0 : Int) ≤ (k : Int) := by omega
    have hkx : k < (L.map mkB).length := by have := HML.out; have := Hln.out; omega
    have hkL : k < L.length := by have := Hln.out; omega
    have hlw := HV1.out.below HB.out (fun b hb => hb)
    have Hnx : Hid (∀ r, stepA (some all) (mkB L[k]) = r → ((L.map mkB).take (k + 1)).foldl stepA (some []) = r) := fun r h => by
      rw [fold_snoc hkx, Hst.out, List.getElem_map, h]
    have Hnone : Hid (stepA (some all) (mkB L[k]) = none → parseQ t = ([], 21)) := fun h => HqN.out (fold_dead stepA_none (k := k + 1) (Hnx.out _ h))
    have hsa := stepA_alt (all := all) (p := L[k])
    obtain ⟨b, o, cs, rfl, hSb, hbl, hsp, hcell⟩ := hlw.elem (List.getElem?_eq_getElem hkx)
    obtain ⟨rfl, _⟩ := hsp
    have c0 := hcell 0 _ rfl
    simp only [rStr, Nat.add_zero, Nat.mul_one] at c0
    clear hcell
    simp only [List.getElem_map] at c0
    have Hw := Lib.hid (fun W => Hwords.out k hkL W)
    have Hne : Hid (∀ x ∈ (wordsL L[k]).map mkB, x ≠ ⟨#[]⟩) := fun x hx => by
      obtain ⟨p, hp, rfl⟩ := List.mem_map.1 hx
      exact words_ne hp
    have Hsz : Hid (∀ x ∈ (wordsL L[k]).map mkB, x.size ≤ 4096) := fun x hx => by
      obtain ⟨p, hp, rfl⟩ := List.mem_map.1 hx
      have h1 := HLs.out (mkB L[k]) (List.mem_map.2 ⟨_, List.getElem_mem hkL, rfl⟩)
      have h2 : mkB p ∈ spl (mkB L[k]) blankB := by
        rw [spl_blank]
        exact List.mem_map.2 ⟨p, (List.mem_filter.1 hp).1, rfl⟩
      have h3 := splitB_le blankB _ _ _ h2
      omega
    have HMl : Hid (((wordsL L[k]).map mkB).length ≤ 4097) := by
      have h1 := HLs.out (mkB L[k]) (List.mem_map.2 ⟨_, List.getElem_mem hkL, rfl⟩)
      have h2 := splitB_len blankB (mkB L[k]).size (mkB L[k])
      have h3 := congrArg List.length (spl_blank (mkB L[k]))
      rw [List.length_map, mkB_data] at h3
      unfold spl at h3
      have h4 : (wordsL L[k]).length ≤ (wrdL [] L[k]).length := List.length_filter_le _ _
      unfold Hid
      rw [List.length_map]
      omega
    generalize mkB L[k] = x at *
    generalize (wordsL L[k]).map mkB = M at *
    have Hsa := Lib.hid hsa
    clear hsa hlw HqN HqS HBd Hwords
    go_wp2_with fail
    refine (Hw.out _).mono ?_
    rintro e w2 ⟨v2, rfl, hv2, hb2⟩
    obtain ⟨A2, c2, rfl, _, _⟩ := hv2.val
    have HV2 := Lib.hid (hv2.more (S' := fun b => b < w2.heap.size) fun b _ h => h)
    have HB2 := Lib.hid (HB.out.trans (hb2.mono HB.out.size))
    have Hown2 := Lib.hid (Hown.out.keep hb2)
    clear hv2 hb2 Hown HB c0 Hw HBw
    obtain ⟨mn, hmn⟩ : ∃ mn, mn = M.length := ⟨_, rfl⟩
    rw [← hmn] at HV2 ⊢
    have Hmn := Lib.hid hmn
    have hmn9 : mn ≤ 4097 := by rw [hmn]; exact HMl.out
    clear hmn HMl
    go_wp2_with fail
    refine (refAll_any _).mono ?_
    rintro e w3 ⟨v3, rfl, hv3, hb3⟩
    have hall : allS = (runL (0, lastR)).map spnAt := by rw [runL_yes (by decide)]; rfl
    rw [hall] at hv3
    have Hv3 := Lib.hid hv3
    have HV3 := Lib.hid (HV2.out.belowSize hb3)
    have HB3 := Lib.hid (HB2.out.trans (hb3.mono HB2.out.size))
    have Hown3 := Lib.hid (Hown2.out.keep hb3)
    have Hle3 : Hid (w2.heap.size ≤ w3.heap.size) := hb3.size
    have Hol : Hid (∀ g, u4.ownBlock = some g → g < w2.heap.size) := fun g hg => (Hown2.out.lt g hg).2
    clear hv3 hb3 HB2 Hown2 HV2 hall
    go_wp2_with fail
    go_loopw [8, 9] (fun v i wx => ∃ (j : Nat) (ro : Rk), j ≤ mn ∧ i = .int .i64 j ∧ Hid ((M.take j).foldl stepW (some ((0, lastR), false)) = some (ro, decide (0 < j))) ∧ Hid (SlV rSpn wx (fun b => w2.heap.size ≤ b) ((runL ro).map spnAt) v) ∧ Hid (Below w3.heap.size w3 wx)) (fun _ i _ => mn - (intOf i).toNat)
    case atStart => exact ⟨0, (0, lastR), Nat.zero_le _, rfl, rfl, Hv3, Below.refl _ _⟩
    case round =>
      clear Hv3
      obtain ⟨j, ro, hj, rfl, Hst2, Hsv, HBx⟩ := hrel
      obtain ⟨Ao, co, rfl, _, _⟩ := Hsv.out.val
      obtain ⟨z, hz⟩ : ∃ z, z = ((runL ro).map spnAt).length := ⟨_, rfl⟩
      rw [← hz] at Hsv ⊢
      have hz1 : z ≤ 1 := by rw [hz, List.length_map]; exact runL_len ro
      have hbo := innF_bounds (M.take j) Hst2.out
      have HB4 : Hid (Below w1.heap.size w1 wr) := HB3.out.trans (HBx.out.mono (by have := HB3.out.size; omega))
      have HBw : Hid (Below w.heap.size w wr) := bot HB1.out HB4.out
      have HVx := Lib.hid (HV3.out.belowSize HBx.out)
      have Hownx := Lib.hid (Hown3.out.keep HBx.out)
      clear hz
      by_cases hjl : j < mn
      · have hjI : (j : Int) < (mn : Int) := by omega
        have hj0 : (0 : Int) ≤ (j : Int) := by omega
        have hjx : j < M.length := by have := Hmn.out; omega
        have hlw := HVx.out
        obtain ⟨b, o, cs, rfl, hSb, hbl, hsp, hcell⟩ := hlw.elem (List.getElem?_eq_getElem hjx)
        obtain ⟨rfl, _⟩ := hsp
        have c0 := hcell 0 _ rfl
        simp only [rStr, Nat.add_zero, Nat.mul_one] at c0
        clear hcell
        have hmem := List.getElem_mem hjx
        have Hwd := Lib.hid (refWord_any M[j] wr (by have := Hsz.out _ hmem; omega))
        have Hnx2 : Hid (∀ r, stepW (some (ro, decide (0 < j))) M[j] = r → (M.take (j + 1)).foldl stepW (some ((0, lastR), false)) = r) := fun r h => by
          rw [fold_snoc hjx, Hst2.out, h]
        have hnon := Hne.out _ hmem
        have Hnon := Lib.hid hnon
        clear hlw hmem hnon
        generalize M[j] = y at *
        cases hw : wordF y with
        | none =>
          have hdead : M.foldl stepW (some ((0, lastR), false)) = none := fold_dead stepW_none (k := j + 1) (Hnx2.out _ (stepW_bad Hnon.out hw))
          have Hno : Hid (parseQ t = ([], 21)) := Hnone.out (by rw [Hsa.out, hdead])
          rw [hw] at Hwd
          clear hdead hw
          go_wp2_with fail
          refine Hwd.out.mono ?_
          rintro e w5 ⟨v5, rfl, hv5, hb5⟩
          simp only [Option.isSome_none]
          go_wp2_with fail
          go_ret2
          rw [Hno.out]
          exact ⟨_, rfl, SlV.nil_ _ _ _, bot HBw.out hb5⟩
        | some xr =>
          have hxb := wordF_bounds hw
          have Hst3 : Hid ((M.take (j + 1)).foldl stepW (some ((0, lastR), false)) = some ((max ro.1 xr.1, min ro.2 xr.2), decide (0 < j + 1))) := by
            unfold Hid
            rw [Hnx2.out _ (stepW_word hw), decide_eq_true (Nat.succ_pos j)]
          rw [hw] at Hwd
          have Hxb := Lib.hid hxb
          clear hw hxb Hnx2
          go_wp2_with fail
          refine Hwd.out.mono ?_
          rintro e w5 ⟨v5, rfl, hv5, hb5⟩
          obtain ⟨Ax, cx, rfl, _, _⟩ := hv5.val
          have hwl : (wsp (some xr)).length ≤ 1 := by show ((runL xr).map spnAt).length ≤ 1; rw [List.length_map]; exact runL_len xr
          obtain ⟨zx, hzx⟩ : ∃ zx, zx = (wsp (some xr)).length := ⟨_, rfl⟩
          rw [← hzx] at hv5 ⊢
          simp only [Option.isSome_some]
          have HB5 := Lib.hid (HBx.out.trans (hb5.mono HBx.out.size))
          have Hsv5 := Lib.hid (Hsv.out.belowSize hb5)
          have hfo := folded_any 109 (by decide) Ao Ax z zx co cx ((runL ro).map spnAt) (wsp (some xr)) w5 _ _ Hsv5.out hv5 (by rw [spn_in0 hbo.1.1 hbo.2.2]; exact runL_in0 hbo.1.1 hbo.2.2) (by show In0 (rks ((runL xr).map spnAt)); rw [spn_in0 Hxb.out.1.1 Hxb.out.2.2]; exact runL_in0 Hxb.out.1.1 Hxb.out.2.2) (by rw [List.length_map]; have := runL_len ro; omega) (by omega)
          rw [show rks (wsp (some xr)) = runL xr from spn_in0 Hxb.out.1.1 Hxb.out.2.2, spn_in0 hbo.1.1 hbo.2.2, fold_runs hbo.1.1 hbo.2.2 Hxb.out.1.1 Hxb.out.2.2, fit_run (o := (max ro.1 xr.1, min ro.2 xr.2)) (by simp only; omega) (by simp only; omega)] at hfo
          have Hfo := Lib.hid hfo
          have Hz5 : Hid (w2.heap.size ≤ w5.heap.size) := by have := HB5.out.size; have := Hle3.out; unfold Hid; omega
          clear hfo hv5 hb5 hzx hwl Hwd
          go_wp2_with fail
          refine Hfo.out.mono ?_
          rintro e w6 ⟨v6, rfl, hv6, hb6⟩
          have Hv6 : Hid (SlV rSpn w6 (fun b => w2.heap.size ≤ b) ((runL (max ro.1 xr.1, min ro.2 xr.2)).map spnAt) v6) := hv6.more fun b hb _ => Nat.le_trans Hz5.out hb
          have HB6 := Lib.hid (HB5.out.trans (hb6.mono HB5.out.size))
          clear hv6 hb6 Hfo
          go_wp2_with fail
          go_roundw
          case rel => exact ⟨j + 1, (max ro.1 xr.1, min ro.2 xr.2), by omega, by go_num, Hst3, Hv6, HB6⟩
          case measure => simp [intOf]; omega
      · have hjI : ¬ (j : Int) < (mn : Int) := by omega
        have hst2 := Hst2.out
        obtain rfl : j = mn := by omega
        rw [Hmn.out, List.take_length] at hst2
        by_cases hj0 : j = 0
        · have hj0' : ((j : Int) == 0) = true := by simp [hj0]
          have Hno : Hid (parseQ t = ([], 21)) := Hnone.out (by rw [Hsa.out, hst2, ← Hmn.out, hj0]; rfl)
          clear hst2
          go_wp2_with fail
          go_ret2
          rw [Hno.out]
          exact ⟨_, rfl, SlV.nil_ _ _ _, HBw.out⟩
        · have hj0' : ((j : Int) == 0) = false := by simpa using hj0
          have Hst4 : Hid (((L.map mkB).take (k + 1)).foldl stepA (some []) = some (all ++ runL ro)) := Hnx.out _ (by
            rw [Hsa.out, hst2, ← Hmn.out, decide_eq_true (show 0 < j by omega)]; rfl)
          have Hmp : Hid ((all ++ runL ro).map spnAt = all.map spnAt ++ (runL ro).map spnAt) := List.map_append
          have Hrl : Hid (((runL ro).map spnAt).length ≤ 1) := by unfold Hid; rw [List.length_map]; exact runL_len ro
          have Hal : Hid ((all.map spnAt).length ≤ 4097) := by unfold Hid; rw [List.length_map]; exact hal
          have hzz := HB4.out.size
          clear hst2 Hst2 Hnx Hnone Hsa
          go_wp2_with (at_builtin; refine wpList_extend (by rfl) _ _ _ (by rfl) elt_spn Tryz.underlying36 (by rfl) Hownx.out (fun b => w2.heap.size ≤ b) ((runL ro).map spnAt) _ _ _ (by rfl) Hsv.out (by intro q hq he; have := Hol.out q he; omega) (by have := Hrl.out; have := Hal.out; unfold maxLen; omega) (by have := Hrl.out; have := Hal.out; omega) hzz ?_)
          intro v7 w7 hown7 hgrow7 hat7
          have HB7 := Lib.hid (HB4.out.grown hgrow7 hzz (fun g hg => (Hownx.out.lt g hg).1))
          have Hown7 := Lib.hid hown7
          clear hown7 hgrow7 hat7
          go_wp2_with fail
          go_roundw
          case rel => exact ⟨k + 1, all ++ runL ro, _, by omega, by go_num, Hst4, by unfold Hid; rw [Hmp.out]; exact Hown7.out, HB7⟩
          case measure => simp [intOf]; omega
end Go.Proofs.YtldjldkejjeamaaGreatDoor
