/-
  The document's Print of spans, walked.
-/
import Derived.Test.YtanipbpphbkmcaaGreatDoorSpanM
import Derived.Test.YtanipbpphbkmcaaGreatDoorSpanP
import Derived.Test.YtanipbpphbkmcaaGreatDoorVersR
set_option autoImplicit false
set_option relaxedAutoImplicit false
set_option linter.unusedVariables false
set_option linter.unusedSimpArgs false
namespace Go.Proofs.YtanipbpphbkmcaaGreatDoor
open Go.Rows Go.RowKit Go.Shelf Go.Sort

theorem run_eql_ver (w : World) (a b c d e f : Int) : (binOp .eql 39 (.agg #[.int .i64 a, .int .i64 b, .int .i64 c]) (.agg #[.int .i64 d, .int .i64 e, .int .i64 f])).run Tryz.prog w = .ok (.bool (decide (a = d ∧ b = e ∧ c = f))) w := by
  rw [run_eql_struct]
  have hu' := Tryz.underlying39
  have hu : Tryz.prog.underlying 39 = some (.struct (Tryz.prog.fieldsOf 39)) := by kernel_rfl
  have hs : Tryz.prog.stoodInHeld 39 = false := by kernel_rfl
  have h3 : ∀ w, (isAgg 3).run Tryz.prog w = .ok false w := fun _ => by kernel_rfl
  rw [show (10000 : Nat) = 9999 + 1 from rfl, run_equalIn_agg _ _ _ _ _ hu hs]
  have he : ∀ (x y : Int) (w : World), (Op.equalIn 9999 3 (.int .i64 x) (.int .i64 y)).run Tryz.prog w = .ok (x == y) w := fun x y w => by
    rw [show (9999 : Nat) = 9998 + 1 from rfl, run_equalIn_int (k' := .i64) (h := Tryz.underlying3)]
  by_cases h1 : a = d
  · by_cases h2 : b = e
    · by_cases h4 : c = f
      · simp [Program.fieldsOf, hu', Op.eqFields, part, h3, he, h1, h2, h4]
      · simp [Program.fieldsOf, hu', Op.eqFields, part, h3, he, h1, h2, h4]
    · simp [Program.fieldsOf, hu', Op.eqFields, part, h3, he, h1, h2]
  · simp [Program.fieldsOf, hu', Op.eqFields, part, h3, he, h1]

def accS (l : List Spn) : ByteArray := if l = [] then ⟨#[]⟩ else joinB (l.map spanText)
theorem accS_le (l : List Spn) : (accS l).size ≤ 31 * l.length := by
  unfold accS; split
  · exact Nat.zero_le _
  · exact joinB_spans_le l
theorem accS_first {l : List Spn} (h : 0 < l.length) : accS (l.take (0 + 1)) = spanText l[0] := by
  rw [List.take_succ_eq_append_getElem h]
  unfold accS
  rw [if_neg (by simp)]
  simp [joinB_one]
theorem accS_next {l : List Spn} {k : Nat} (h : k < l.length) (hk : k ≠ 0) : accS (l.take (k + 1)) = accS (l.take k) ++ sepB ++ spanText l[k] := by
  have hne : l.take k ≠ [] := by
    intro e
    have h1 : (l.take k).length = 0 := by rw [e]; rfl
    rw [List.length_take] at h1
    omega
  rw [List.take_succ_eq_append_getElem h]
  unfold accS
  rw [if_neg (show ¬ (l.take k ++ [l[k]] = []) from fun e => by cases (List.append_eq_nil_iff.1 e).2), if_neg hne, List.map_append, List.map_cons, List.map_nil, joinB_snoc (fun e => hne (List.map_eq_nil_iff.1 e))]

def C6 (W : World) (b o : Nat) (x1 x2 x3 x4 x5 x6 : Int) : Prop :=
  W.cell? ⟨b, o, none⟩ = some (.int .i64 x1) ∧ W.cell? ⟨b, o + 1, none⟩ = some (.int .i64 x2) ∧ W.cell? ⟨b, o + 2, none⟩ = some (.int .i64 x3) ∧
  W.cell? ⟨b, o + 3, none⟩ = some (.int .i64 x4) ∧ W.cell? ⟨b, o + 4, none⟩ = some (.int .i64 x5) ∧ W.cell? ⟨b, o + 5, none⟩ = some (.int .i64 x6)

set_option maxHeartbeats 2000000 in
set_option maxRecDepth 100000 in
theorem refSpanPrint_any (A : Option Addr) (n c : Nat) (l : List Spn) (w : World) (S : Nat → Prop) (hl : SlV rSpn w S l (.slice A n c)) :
    Calls Tryz.prog 144 #[.slice A n c] w fun e w' => e = .returned (.string (spansText l)) ∧ Below w.heap.size w w' := by
  have Hm := Lib.hid (refSpanMay_any A n c l w S hl)
  cases hv : spansB l
  · have Hs : Hid (spansText l = ⟨#[]⟩) := by unfold Hid spansText; rw [hv]; rfl
    rw [hv] at Hm
    clear hv hl
    generalize spansText l = r at *
    go_enter Tryz.func144, Tryz.ntmps144
    go_wp2_with fail
    refine (Hm.out).mono ?_
    rintro e w1 ⟨rfl, hb1⟩
    go_wp2_with fail
    go_ret
    exact ⟨ret_str Hs.out.symm, hb1⟩
  · have hnx := hl.n_eq
    have hl64 : l.length ≤ 64 := by simp [spansB] at hv; exact hv.1
    have Hs : Hid (spansText l = if l = [] then noneB else joinB (l.map spanText)) := by unfold Hid spansText; rw [hv]; rfl
    have Hmem := Lib.hid (spansB_mem hv)
    rw [hv] at Hm
    by_cases hnil : l = []
    · have hn0 : ((n : Int) == 0) = true := by rw [hnx, hnil]; rfl
      have He : Hid (spansText l = noneB) := by unfold Hid; rw [Hs.out, if_pos hnil]
      clear hnx hnil hl hv Hs
      generalize spansText l = r at *
      go_enter Tryz.func144, Tryz.ntmps144
      go_wp2_with fail
      refine (Hm.out).mono ?_
      rintro e w1 ⟨rfl, hb1⟩
      go_wp2_with fail
      go_ret
      exact ⟨ret_str He.out.symm, hb1⟩
    have hpos : 0 < l.length := List.length_pos_iff.2 hnil
    have hn0 : ((n : Int) == 0) = false := by simp; omega
    have hn64 : n ≤ 64 := by omega
    have He : Hid (spansText l = accS l) := by unfold Hid accS; rw [Hs.out, if_neg hnil, if_neg hnil]
    have hl' := hl.more (S' := fun b => b < w.heap.size) fun b _ hlt => hlt
    have Hnx := Lib.hid hnx; clear hnx
    clear hnil hl hv Hs hpos
    generalize spansText l = r at *
    go_enter Tryz.func144, Tryz.ntmps144
    go_wp2_with fail
    refine (Hm.out).mono ?_
    rintro e w1 ⟨rfl, hb1⟩
    have hbw1 := hb1.size
    have hl1 := hl'.below hb1 (fun b hb => hb)
    have Hb1 := Lib.hid hb1
    clear hb1 hl' Hm
    go_wp2_with fail
    go_loopw [3, 4] (fun t i wr => ∃ (k : Nat) (acc : ByteArray), k ≤ n ∧ t = .string acc ∧ i = .int .i64 k ∧ Hid (acc = accS (l.take k)) ∧ Below w1.heap.size w1 wr) (fun _ i _ => n - (intOf i).toNat)
    case atStart => exact ⟨0, ⟨#[]⟩, Nat.zero_le _, rfl, rfl, rfl, Below.refl _ _⟩
    case round =>
      obtain ⟨k, acc, hk, rfl, rfl, hacc, hbel⟩ := hrel
      have hbw := hbel.size
      by_cases hlt : k < n
      · have hkx : k < l.length := by have := Hnx.out; omega
        have hlw := hl1.below hbel (fun b hb => Nat.lt_of_lt_of_le hb hbw1)
        obtain ⟨b, o, cs, rfl, hSb, hbl, hsp, hcell⟩ := hlw.elem (List.getElem?_eq_getElem hkx)
        obtain ⟨rfl, _, _, _, _, _, _⟩ := hsp
        have c0 := hcell 0 _ rfl
        have c1 := hcell 1 _ rfl
        have c2 := hcell 2 _ rfl
        have c3 := hcell 3 _ rfl
        have c4 := hcell 4 _ rfl
        have c5 := hcell 5 _ rfl
        simp only [rSpn, Nat.add_zero, Nat.mul_one] at c0 c1 c2 c3 c4 c5
        clear hcell
        obtain ⟨m1, m2, m3⟩ := Hmem.out l[k] (List.getElem_mem hkx)
        have Hfirst : Hid (k = 0 → accS (l.take (k + 1)) = spanText l[k]) := by rintro rfl; exact accS_first hkx
        have Hnext : Hid (k ≠ 0 → accS (l.take (k + 1)) = accS (l.take k) ++ sepB ++ spanText l[k]) := fun h => accS_next hkx h
        have hz0 : acc.size ≤ 2000 := by
          have h1 := accS_le (l.take k)
          have h2 : (l.take k).length ≤ 64 := by simp; omega
          rw [hacc.out]; omega
        have hk0 : (0 : Int) ≤ (k : Int) := by omega
        have hkn : (k : Int) < (n : Int) := by omega
        clear hlw
        generalize l[k] = s at *
        obtain ⟨⟨x1, x2, x3⟩, ⟨x4, x5, x6⟩⟩ := s
        simp only at c0 c1 c2 c3 c4 c5
        have HC : Hid (∀ W, Below wr.heap.size wr W → C6 W b (o + k * 6) x1 x2 x3 x4 x5 x6) := fun W hW => ⟨below_cell hW c0 hbl, below_cell hW c1 hbl, below_cell hW c2 hbl, below_cell hW c3 hbl, below_cell hW c4 hbl, below_cell hW c5 hbl⟩
        have m1' : verB x1 x2 x3 = true := m1
        have m2' : verB x4 x5 x6 = true := m2
        have k1 : rankR x1 x2 x3 = rankI x1 x2 x3 := Ver.rank_ok m1
        have k2 : rankR x4 x5 x6 = rankI x4 x5 x6 := Ver.rank_ok m2
        have hiff : rankR x1 x2 x3 = rankR x4 x5 x6 ↔ (x1 = x4 ∧ x2 = x5 ∧ x3 = x6) := ⟨fun h => rank_inj m1' m2' (by rw [← k1, ← k2]; exact h), fun h => by obtain ⟨rfl, rfl, rfl⟩ := h; rfl⟩
        have Hst : Hid (spanText ⟨⟨x1, x2, x3⟩, ⟨x4, x5, x6⟩⟩ = if rankR x1 x2 x3 = rankR x4 x5 x6 then verText x1 x2 x3 else if rankR x1 x2 x3 = 0 then (if rankR x4 x5 x6 = 999999999 then starB else leB ++ verText x4 x5 x6) else if rankR x4 x5 x6 = 999999999 then geB ++ verText x1 x2 x3 else geB ++ verText x1 x2 x3 ++ andB ++ verText x4 x5 x6) := rfl
        have heq : ∀ W, (binOp .eql 39 (.agg #[.int .i64 x1, .int .i64 x2, .int .i64 x3]) (.agg #[.int .i64 x4, .int .i64 x5, .int .i64 x6])).run Tryz.prog W = .ok (.bool (decide (rankR x1 x2 x3 = rankR x4 x5 x6))) W := fun W => by
          rw [run_eql_ver]; simp only [hiff]
        have H3 := Lib.hid (fun W => refVerPrint_any x1 x2 x3 W)
        have H4 := Lib.hid (fun W => refVerPrint_any x4 x5 x6 W)
        have H5 := Lib.hid (fun W => refRank_any x1 x2 x3 W)
        have H6 := Lib.hid (fun W => refRank_any x4 x5 x6 W)
        have hz1 := verText_le x1 x2 x3
        have hz2 := verText_le x4 x5 x6
        clear m1 m2 m3 m1' m2' k1 k2 hiff
        generalize spanText ⟨⟨x1, x2, x3⟩, ⟨x4, x5, x6⟩⟩ = st at *
        generalize verText x1 x2 x3 = t1 at *
        generalize verText x4 x5 x6 = t2 at *
        generalize rankR x1 x2 x3 = r1 at *
        generalize rankR x4 x5 x6 = r2 at *
        -- the separator
        have hpre : ∃ pre : ByteArray, (k = 0 ∧ pre = acc ∨ k ≠ 0 ∧ pre = acc ++ sepB) := by
          by_cases h : k = 0
          · exact ⟨acc, .inl ⟨h, rfl⟩⟩
          · exact ⟨_, .inr ⟨h, rfl⟩⟩
        obtain ⟨pre, hpre⟩ := hpre
        have Hpre : Hid (accS (l.take (k + 1)) = pre ++ st) := by
          unfold Hid
          rcases hpre with ⟨h, e⟩ | ⟨h, e⟩
          · rw [Hfirst.out h, e, hacc.out, h]
            apply ByteArray.ext; simp [accS, ByteArray.data_append]
          · rw [Hnext.out h, e, hacc.out]
        have hzp : pre.size ≤ 2004 := by
          have z : sepB.size = 4 := rfl
          rcases hpre with ⟨h, e⟩ | ⟨h, e⟩
          · rw [e]; omega
          · rw [e, ByteArray.size_append]; omega
        have zl : leB.size = 2 := rfl
        have zg : geB.size = 2 := rfl
        have zs : starB.size = 1 := rfl
        have zp : spaceB.size = 1 := rfl
        have A1 : ∀ W : World, (Op.stringOp .add ⟨#[62, 61]⟩ t1).run Tryz.prog W = .ok (.string (geB ++ t1)) W := fun W => run_string_add_sum W geB t1 (by omega)
        have A2 : ∀ W : World, (Op.stringOp .add ⟨#[60, 61]⟩ t2).run Tryz.prog W = .ok (.string (leB ++ t2)) W := fun W => run_string_add_sum W leB t2 (by omega)
        have A3 : ∀ W : World, (Op.stringOp .add pre t1).run Tryz.prog W = .ok (.string (pre ++ t1)) W := fun W => run_string_add_sum W pre t1 (by omega)
        have A4 : ∀ W : World, (Op.stringOp .add pre ⟨#[42]⟩).run Tryz.prog W = .ok (.string (pre ++ starB)) W := fun W => run_string_add_sum W pre starB (by omega)
        have A5 : ∀ W : World, (Op.stringOp .add pre (leB ++ t2)).run Tryz.prog W = .ok (.string (pre ++ (leB ++ t2))) W := fun W => run_string_add_sum W pre _ (by rw [ByteArray.size_append]; omega)
        have A6 : ∀ W : World, (Op.stringOp .add pre (geB ++ t1)).run Tryz.prog W = .ok (.string (pre ++ (geB ++ t1))) W := fun W => run_string_add_sum W pre _ (by rw [ByteArray.size_append]; omega)
        have A7 : ∀ W : World, (Op.stringOp .add (pre ++ (geB ++ t1)) ⟨#[32]⟩).run Tryz.prog W = .ok (.string (pre ++ (geB ++ t1) ++ spaceB)) W := fun W => run_string_add_sum W _ spaceB (by rw [ByteArray.size_append, ByteArray.size_append]; omega)
        have A8 : ∀ W : World, (Op.stringOp .add (pre ++ (geB ++ t1) ++ spaceB) (leB ++ t2)).run Tryz.prog W = .ok (.string (pre ++ (geB ++ t1) ++ spaceB ++ (leB ++ t2))) W := fun W => run_string_add_sum W _ _ (by simp only [ByteArray.size_append]; omega)
        have Ha : Hid ((pre ++ (geB ++ t1) ++ spaceB ++ (leB ++ t2) : ByteArray) = pre ++ (geB ++ t1 ++ andB ++ t2)) := by
          apply ByteArray.ext
          apply Array.ext'
          simp [ByteArray.data_append, andB, spaceB, leB]
        have A0 : ∀ W : World, k ≠ 0 → (Op.stringOp .add acc ⟨#[32, 124, 124, 32]⟩).run Tryz.prog W = .ok (.string (acc ++ sepB)) W := fun W _ => run_string_add_sum W acc sepB (by have z : sepB.size = 4 := rfl; omega)
        clear zl zg zs zp
        have Hgoal : Hid (∀ (out' : ByteArray) (W : World), out' = pre ++ st → Below w1.heap.size w1 W → ∃ (k' : Nat) (acc' : ByteArray), k' ≤ n ∧ (Value.string out') = .string acc' ∧ (Value.int .i64 ((k : Int) + 1)) = .int .i64 k' ∧ Hid (acc' = accS (l.take k')) ∧ Below w1.heap.size w1 W) :=
          fun out' W h1 h2 => ⟨k + 1, out', by omega, rfl, by go_num, by unfold Hid; rw [Hpre.out]; exact h1, h2⟩
        clear Hfirst Hnext Hpre hacc
        rcases hpre with ⟨hk0', hp⟩ | ⟨hk0', hp⟩
        · have hkz : ¬ (0 : Int) < (k : Int) := by omega
          subst hp
          clear hk0' A0
          by_cases h12 : r1 = r2
          · have heq1 : ∀ W, (binOp .eql 39 (.agg #[.int .i64 x1, .int .i64 x2, .int .i64 x3]) (.agg #[.int .i64 x4, .int .i64 x5, .int .i64 x6])).run Tryz.prog W = .ok (.bool true) W := fun W => by rw [heq, decide_eq_true h12]
            have Hend : Hid (st = t1) := by unfold Hid; rw [Hst.out, if_pos h12]
            clear h12 Hst heq
            go_wp2_with fail
            refine (H3.out _).mono ?_
            rintro e w2 ⟨rfl, hb2⟩
            clear c0 c1 c2 c3 c4 c5
            obtain ⟨c0, c1, c2, c3, c4, c5⟩ := HC.out w2 hb2
            go_wp2_with fail
            refine (H4.out _).mono ?_
            rintro e w3 ⟨rfl, hb3⟩
            have B3 := bot hb2 hb3
            clear c0 c1 c2 c3 c4 c5 hb2 hb3
            obtain ⟨c0, c1, c2, c3, c4, c5⟩ := HC.out w3 B3
            go_wp2_with fail
            refine (H5.out _).mono ?_
            rintro e w4 ⟨rfl, hb4⟩
            have B4 := bot B3 hb4
            clear c0 c1 c2 c3 c4 c5 B3 hb4
            obtain ⟨c0, c1, c2, c3, c4, c5⟩ := HC.out w4 B4
            go_wp2_with fail
            refine (H6.out _).mono ?_
            rintro e w5 ⟨rfl, hb5⟩
            have B5 := bot B4 hb5
            clear c0 c1 c2 c3 c4 c5 B4 hb5
            obtain ⟨c0, c1, c2, c3, c4, c5⟩ := HC.out w5 B5
            have r_c0 := cell_regrown c0
            have r_c1 := cell_regrown c1
            have r_c2 := cell_regrown c2
            have r_c3 := cell_regrown c3
            have r_c4 := cell_regrown c4
            have r_c5 := cell_regrown c5
            go_wp2_with fail
            refine wp_region_qb (by kernel_rfl) (by kernel_rfl) ?_
            repeat (go_big_quiet_step (first | fail))
            refine wpQuiet_nil ?_
            intro w6 hb6
            have B6 := bot B5 hb6
            clear c0 c1 c2 c3 c4 c5 r_c0 r_c1 r_c2 r_c3 r_c4 r_c5 B5 hb6
            obtain ⟨c0, c1, c2, c3, c4, c5⟩ := HC.out w6 B6
            go_wp2_with fail
            refine (H3.out _).mono ?_
            rintro e w7 ⟨rfl, hb7⟩
            have B7 := bot B6 hb7
            clear c0 c1 c2 c3 c4 c5 hb7
            go_wp2_with fail
            go_roundw
            case rel => exact Hgoal.out _ _ (by rw [Hend.out]) (bot hbel B7)
            case measure => simp [intOf]; omega
          · have heq1 : ∀ W, (binOp .eql 39 (.agg #[.int .i64 x1, .int .i64 x2, .int .i64 x3]) (.agg #[.int .i64 x4, .int .i64 x5, .int .i64 x6])).run Tryz.prog W = .ok (.bool false) W := fun W => by rw [heq, decide_eq_false h12]
            by_cases h1 : r1 = 0
            · have hb1 : (r1 == 0) = true := by simp [h1]
              by_cases h2 : r2 = 999999999
              · have hb2 : (r2 == 999999999) = true := by simp [h2]
                have Hend : Hid (st = starB) := by unfold Hid; rw [Hst.out, if_neg h12, if_pos h1, if_pos h2]
                clear h12 h1 h2 Hst heq
                go_wp2_with fail
                refine (H3.out _).mono ?_
                rintro e w2 ⟨rfl, hb2⟩
                clear c0 c1 c2 c3 c4 c5
                obtain ⟨c0, c1, c2, c3, c4, c5⟩ := HC.out w2 hb2
                go_wp2_with fail
                refine (H4.out _).mono ?_
                rintro e w3 ⟨rfl, hb3⟩
                have B3 := bot hb2 hb3
                clear c0 c1 c2 c3 c4 c5 hb2 hb3
                obtain ⟨c0, c1, c2, c3, c4, c5⟩ := HC.out w3 B3
                go_wp2_with fail
                refine (H5.out _).mono ?_
                rintro e w4 ⟨rfl, hb4⟩
                have B4 := bot B3 hb4
                clear c0 c1 c2 c3 c4 c5 B3 hb4
                obtain ⟨c0, c1, c2, c3, c4, c5⟩ := HC.out w4 B4
                go_wp2_with fail
                refine (H6.out _).mono ?_
                rintro e w5 ⟨rfl, hb5⟩
                have B5 := bot B4 hb5
                clear c0 c1 c2 c3 c4 c5 B4 hb5
                obtain ⟨c0, c1, c2, c3, c4, c5⟩ := HC.out w5 B5
                have r_c0 := cell_regrown c0
                have r_c1 := cell_regrown c1
                have r_c2 := cell_regrown c2
                have r_c3 := cell_regrown c3
                have r_c4 := cell_regrown c4
                have r_c5 := cell_regrown c5
                go_wp2_with fail
                refine wp_region_qb (by kernel_rfl) (by kernel_rfl) ?_
                repeat (go_big_quiet_step (first | fail))
                refine wpQuiet_nil ?_
                intro w6 hb6
                have B6 := bot B5 hb6
                clear c0 c1 c2 c3 c4 c5 r_c0 r_c1 r_c2 r_c3 r_c4 r_c5 B5 hb6
                go_wp2_with fail
                go_roundw
                case rel => exact Hgoal.out _ _ (by rw [Hend.out]) (bot hbel B6)
                case measure => simp [intOf]; omega
              · have hb2 : (r2 == 999999999) = false := by simp [h2]
                have Hend : Hid (st = leB ++ t2) := by unfold Hid; rw [Hst.out, if_neg h12, if_pos h1, if_neg h2]
                clear h12 h1 h2 Hst heq
                go_wp2_with fail
                refine (H3.out _).mono ?_
                rintro e w2 ⟨rfl, hb2⟩
                clear c0 c1 c2 c3 c4 c5
                obtain ⟨c0, c1, c2, c3, c4, c5⟩ := HC.out w2 hb2
                go_wp2_with fail
                refine (H4.out _).mono ?_
                rintro e w3 ⟨rfl, hb3⟩
                have B3 := bot hb2 hb3
                clear c0 c1 c2 c3 c4 c5 hb2 hb3
                obtain ⟨c0, c1, c2, c3, c4, c5⟩ := HC.out w3 B3
                go_wp2_with fail
                refine (H5.out _).mono ?_
                rintro e w4 ⟨rfl, hb4⟩
                have B4 := bot B3 hb4
                clear c0 c1 c2 c3 c4 c5 B3 hb4
                obtain ⟨c0, c1, c2, c3, c4, c5⟩ := HC.out w4 B4
                go_wp2_with fail
                refine (H6.out _).mono ?_
                rintro e w5 ⟨rfl, hb5⟩
                have B5 := bot B4 hb5
                clear c0 c1 c2 c3 c4 c5 B4 hb5
                obtain ⟨c0, c1, c2, c3, c4, c5⟩ := HC.out w5 B5
                have r_c0 := cell_regrown c0
                have r_c1 := cell_regrown c1
                have r_c2 := cell_regrown c2
                have r_c3 := cell_regrown c3
                have r_c4 := cell_regrown c4
                have r_c5 := cell_regrown c5
                go_wp2_with fail
                refine wp_region_qb (by kernel_rfl) (by kernel_rfl) ?_
                repeat (go_big_quiet_step (first | fail))
                refine wpQuiet_nil ?_
                intro w6 hb6
                have B6 := bot B5 hb6
                clear c0 c1 c2 c3 c4 c5 r_c0 r_c1 r_c2 r_c3 r_c4 r_c5 B5 hb6
                go_wp2_with fail
                go_roundw
                case rel => exact Hgoal.out _ _ (by rw [Hend.out]) (bot hbel B6)
                case measure => simp [intOf]; omega
            · have hb1 : (r1 == 0) = false := by simp [h1]
              by_cases h2 : r2 = 999999999
              · have hb2 : (r2 == 999999999) = true := by simp [h2]
                have Hend : Hid (st = geB ++ t1) := by unfold Hid; rw [Hst.out, if_neg h12, if_neg h1, if_pos h2]
                clear h12 h1 h2 Hst heq
                go_wp2_with fail
                refine (H3.out _).mono ?_
                rintro e w2 ⟨rfl, hb2⟩
                clear c0 c1 c2 c3 c4 c5
                obtain ⟨c0, c1, c2, c3, c4, c5⟩ := HC.out w2 hb2
                go_wp2_with fail
                refine (H4.out _).mono ?_
                rintro e w3 ⟨rfl, hb3⟩
                have B3 := bot hb2 hb3
                clear c0 c1 c2 c3 c4 c5 hb2 hb3
                obtain ⟨c0, c1, c2, c3, c4, c5⟩ := HC.out w3 B3
                go_wp2_with fail
                refine (H5.out _).mono ?_
                rintro e w4 ⟨rfl, hb4⟩
                have B4 := bot B3 hb4
                clear c0 c1 c2 c3 c4 c5 B3 hb4
                obtain ⟨c0, c1, c2, c3, c4, c5⟩ := HC.out w4 B4
                go_wp2_with fail
                refine (H6.out _).mono ?_
                rintro e w5 ⟨rfl, hb5⟩
                have B5 := bot B4 hb5
                clear c0 c1 c2 c3 c4 c5 B4 hb5
                obtain ⟨c0, c1, c2, c3, c4, c5⟩ := HC.out w5 B5
                have r_c0 := cell_regrown c0
                have r_c1 := cell_regrown c1
                have r_c2 := cell_regrown c2
                have r_c3 := cell_regrown c3
                have r_c4 := cell_regrown c4
                have r_c5 := cell_regrown c5
                go_wp2_with fail
                refine wp_region_qb (by kernel_rfl) (by kernel_rfl) ?_
                repeat (go_big_quiet_step (first | fail))
                refine wpQuiet_nil ?_
                intro w6 hb6
                have B6 := bot B5 hb6
                clear c0 c1 c2 c3 c4 c5 r_c0 r_c1 r_c2 r_c3 r_c4 r_c5 B5 hb6
                go_wp2_with fail
                go_roundw
                case rel => exact Hgoal.out _ _ (by rw [Hend.out]) (bot hbel B6)
                case measure => simp [intOf]; omega
              · have hb2 : (r2 == 999999999) = false := by simp [h2]
                have Hend : Hid (st = geB ++ t1 ++ andB ++ t2) := by unfold Hid; rw [Hst.out, if_neg h12, if_neg h1, if_neg h2]
                clear h12 h1 h2 Hst heq
                go_wp2_with fail
                refine (H3.out _).mono ?_
                rintro e w2 ⟨rfl, hb2⟩
                clear c0 c1 c2 c3 c4 c5
                obtain ⟨c0, c1, c2, c3, c4, c5⟩ := HC.out w2 hb2
                go_wp2_with fail
                refine (H4.out _).mono ?_
                rintro e w3 ⟨rfl, hb3⟩
                have B3 := bot hb2 hb3
                clear c0 c1 c2 c3 c4 c5 hb2 hb3
                obtain ⟨c0, c1, c2, c3, c4, c5⟩ := HC.out w3 B3
                go_wp2_with fail
                refine (H5.out _).mono ?_
                rintro e w4 ⟨rfl, hb4⟩
                have B4 := bot B3 hb4
                clear c0 c1 c2 c3 c4 c5 B3 hb4
                obtain ⟨c0, c1, c2, c3, c4, c5⟩ := HC.out w4 B4
                go_wp2_with fail
                refine (H6.out _).mono ?_
                rintro e w5 ⟨rfl, hb5⟩
                have B5 := bot B4 hb5
                clear c0 c1 c2 c3 c4 c5 B4 hb5
                obtain ⟨c0, c1, c2, c3, c4, c5⟩ := HC.out w5 B5
                have r_c0 := cell_regrown c0
                have r_c1 := cell_regrown c1
                have r_c2 := cell_regrown c2
                have r_c3 := cell_regrown c3
                have r_c4 := cell_regrown c4
                have r_c5 := cell_regrown c5
                go_wp2_with fail
                refine wp_region_qb (by kernel_rfl) (by kernel_rfl) ?_
                repeat (go_big_quiet_step (first | fail))
                refine wpQuiet_nil ?_
                intro w6 hb6
                have B6 := bot B5 hb6
                clear c0 c1 c2 c3 c4 c5 r_c0 r_c1 r_c2 r_c3 r_c4 r_c5 B5 hb6
                go_wp2_with fail
                go_roundw
                case rel => exact Hgoal.out _ _ (by rw [Hend.out]; exact Ha.out) (bot hbel B6)
                case measure => simp [intOf]; omega
        · have hkz : (0 : Int) < (k : Int) := by omega
          have A0' := fun W => A0 W hk0'
          subst hp
          clear hk0' A0
          by_cases h12 : r1 = r2
          · have heq1 : ∀ W, (binOp .eql 39 (.agg #[.int .i64 x1, .int .i64 x2, .int .i64 x3]) (.agg #[.int .i64 x4, .int .i64 x5, .int .i64 x6])).run Tryz.prog W = .ok (.bool true) W := fun W => by rw [heq, decide_eq_true h12]
            have Hend : Hid (st = t1) := by unfold Hid; rw [Hst.out, if_pos h12]
            clear h12 Hst heq
            go_wp2_with fail
            refine (H3.out _).mono ?_
            rintro e w2 ⟨rfl, hb2⟩
            clear c0 c1 c2 c3 c4 c5
            obtain ⟨c0, c1, c2, c3, c4, c5⟩ := HC.out w2 hb2
            go_wp2_with fail
            refine (H4.out _).mono ?_
            rintro e w3 ⟨rfl, hb3⟩
            have B3 := bot hb2 hb3
            clear c0 c1 c2 c3 c4 c5 hb2 hb3
            obtain ⟨c0, c1, c2, c3, c4, c5⟩ := HC.out w3 B3
            go_wp2_with fail
            refine (H5.out _).mono ?_
            rintro e w4 ⟨rfl, hb4⟩
            have B4 := bot B3 hb4
            clear c0 c1 c2 c3 c4 c5 B3 hb4
            obtain ⟨c0, c1, c2, c3, c4, c5⟩ := HC.out w4 B4
            go_wp2_with fail
            refine (H6.out _).mono ?_
            rintro e w5 ⟨rfl, hb5⟩
            have B5 := bot B4 hb5
            clear c0 c1 c2 c3 c4 c5 B4 hb5
            obtain ⟨c0, c1, c2, c3, c4, c5⟩ := HC.out w5 B5
            have r_c0 := cell_regrown c0
            have r_c1 := cell_regrown c1
            have r_c2 := cell_regrown c2
            have r_c3 := cell_regrown c3
            have r_c4 := cell_regrown c4
            have r_c5 := cell_regrown c5
            go_wp2_with fail
            refine wp_region_qb (by kernel_rfl) (by kernel_rfl) ?_
            repeat (go_big_quiet_step (first | fail))
            refine wpQuiet_nil ?_
            intro w6 hb6
            have B6 := bot B5 hb6
            clear c0 c1 c2 c3 c4 c5 r_c0 r_c1 r_c2 r_c3 r_c4 r_c5 B5 hb6
            obtain ⟨c0, c1, c2, c3, c4, c5⟩ := HC.out w6 B6
            go_wp2_with fail
            refine (H3.out _).mono ?_
            rintro e w7 ⟨rfl, hb7⟩
            have B7 := bot B6 hb7
            clear c0 c1 c2 c3 c4 c5 hb7
            go_wp2_with fail
            go_roundw
            case rel => exact Hgoal.out _ _ (by rw [Hend.out]) (bot hbel B7)
            case measure => simp [intOf]; omega
          · have heq1 : ∀ W, (binOp .eql 39 (.agg #[.int .i64 x1, .int .i64 x2, .int .i64 x3]) (.agg #[.int .i64 x4, .int .i64 x5, .int .i64 x6])).run Tryz.prog W = .ok (.bool false) W := fun W => by rw [heq, decide_eq_false h12]
            by_cases h1 : r1 = 0
            · have hb1 : (r1 == 0) = true := by simp [h1]
              by_cases h2 : r2 = 999999999
              · have hb2 : (r2 == 999999999) = true := by simp [h2]
                have Hend : Hid (st = starB) := by unfold Hid; rw [Hst.out, if_neg h12, if_pos h1, if_pos h2]
                clear h12 h1 h2 Hst heq
                go_wp2_with fail
                refine (H3.out _).mono ?_
                rintro e w2 ⟨rfl, hb2⟩
                clear c0 c1 c2 c3 c4 c5
                obtain ⟨c0, c1, c2, c3, c4, c5⟩ := HC.out w2 hb2
                go_wp2_with fail
                refine (H4.out _).mono ?_
                rintro e w3 ⟨rfl, hb3⟩
                have B3 := bot hb2 hb3
                clear c0 c1 c2 c3 c4 c5 hb2 hb3
                obtain ⟨c0, c1, c2, c3, c4, c5⟩ := HC.out w3 B3
                go_wp2_with fail
                refine (H5.out _).mono ?_
                rintro e w4 ⟨rfl, hb4⟩
                have B4 := bot B3 hb4
                clear c0 c1 c2 c3 c4 c5 B3 hb4
                obtain ⟨c0, c1, c2, c3, c4, c5⟩ := HC.out w4 B4
                go_wp2_with fail
                refine (H6.out _).mono ?_
                rintro e w5 ⟨rfl, hb5⟩
                have B5 := bot B4 hb5
                clear c0 c1 c2 c3 c4 c5 B4 hb5
                obtain ⟨c0, c1, c2, c3, c4, c5⟩ := HC.out w5 B5
                have r_c0 := cell_regrown c0
                have r_c1 := cell_regrown c1
                have r_c2 := cell_regrown c2
                have r_c3 := cell_regrown c3
                have r_c4 := cell_regrown c4
                have r_c5 := cell_regrown c5
                go_wp2_with fail
                refine wp_region_qb (by kernel_rfl) (by kernel_rfl) ?_
                repeat (go_big_quiet_step (first | fail))
                refine wpQuiet_nil ?_
                intro w6 hb6
                have B6 := bot B5 hb6
                clear c0 c1 c2 c3 c4 c5 r_c0 r_c1 r_c2 r_c3 r_c4 r_c5 B5 hb6
                go_wp2_with fail
                go_roundw
                case rel => exact Hgoal.out _ _ (by rw [Hend.out]) (bot hbel B6)
                case measure => simp [intOf]; omega
              · have hb2 : (r2 == 999999999) = false := by simp [h2]
                have Hend : Hid (st = leB ++ t2) := by unfold Hid; rw [Hst.out, if_neg h12, if_pos h1, if_neg h2]
                clear h12 h1 h2 Hst heq
                go_wp2_with fail
                refine (H3.out _).mono ?_
                rintro e w2 ⟨rfl, hb2⟩
                clear c0 c1 c2 c3 c4 c5
                obtain ⟨c0, c1, c2, c3, c4, c5⟩ := HC.out w2 hb2
                go_wp2_with fail
                refine (H4.out _).mono ?_
                rintro e w3 ⟨rfl, hb3⟩
                have B3 := bot hb2 hb3
                clear c0 c1 c2 c3 c4 c5 hb2 hb3
                obtain ⟨c0, c1, c2, c3, c4, c5⟩ := HC.out w3 B3
                go_wp2_with fail
                refine (H5.out _).mono ?_
                rintro e w4 ⟨rfl, hb4⟩
                have B4 := bot B3 hb4
                clear c0 c1 c2 c3 c4 c5 B3 hb4
                obtain ⟨c0, c1, c2, c3, c4, c5⟩ := HC.out w4 B4
                go_wp2_with fail
                refine (H6.out _).mono ?_
                rintro e w5 ⟨rfl, hb5⟩
                have B5 := bot B4 hb5
                clear c0 c1 c2 c3 c4 c5 B4 hb5
                obtain ⟨c0, c1, c2, c3, c4, c5⟩ := HC.out w5 B5
                have r_c0 := cell_regrown c0
                have r_c1 := cell_regrown c1
                have r_c2 := cell_regrown c2
                have r_c3 := cell_regrown c3
                have r_c4 := cell_regrown c4
                have r_c5 := cell_regrown c5
                go_wp2_with fail
                refine wp_region_qb (by kernel_rfl) (by kernel_rfl) ?_
                repeat (go_big_quiet_step (first | fail))
                refine wpQuiet_nil ?_
                intro w6 hb6
                have B6 := bot B5 hb6
                clear c0 c1 c2 c3 c4 c5 r_c0 r_c1 r_c2 r_c3 r_c4 r_c5 B5 hb6
                go_wp2_with fail
                go_roundw
                case rel => exact Hgoal.out _ _ (by rw [Hend.out]) (bot hbel B6)
                case measure => simp [intOf]; omega
            · have hb1 : (r1 == 0) = false := by simp [h1]
              by_cases h2 : r2 = 999999999
              · have hb2 : (r2 == 999999999) = true := by simp [h2]
                have Hend : Hid (st = geB ++ t1) := by unfold Hid; rw [Hst.out, if_neg h12, if_neg h1, if_pos h2]
                clear h12 h1 h2 Hst heq
                go_wp2_with fail
                refine (H3.out _).mono ?_
                rintro e w2 ⟨rfl, hb2⟩
                clear c0 c1 c2 c3 c4 c5
                obtain ⟨c0, c1, c2, c3, c4, c5⟩ := HC.out w2 hb2
                go_wp2_with fail
                refine (H4.out _).mono ?_
                rintro e w3 ⟨rfl, hb3⟩
                have B3 := bot hb2 hb3
                clear c0 c1 c2 c3 c4 c5 hb2 hb3
                obtain ⟨c0, c1, c2, c3, c4, c5⟩ := HC.out w3 B3
                go_wp2_with fail
                refine (H5.out _).mono ?_
                rintro e w4 ⟨rfl, hb4⟩
                have B4 := bot B3 hb4
                clear c0 c1 c2 c3 c4 c5 B3 hb4
                obtain ⟨c0, c1, c2, c3, c4, c5⟩ := HC.out w4 B4
                go_wp2_with fail
                refine (H6.out _).mono ?_
                rintro e w5 ⟨rfl, hb5⟩
                have B5 := bot B4 hb5
                clear c0 c1 c2 c3 c4 c5 B4 hb5
                obtain ⟨c0, c1, c2, c3, c4, c5⟩ := HC.out w5 B5
                have r_c0 := cell_regrown c0
                have r_c1 := cell_regrown c1
                have r_c2 := cell_regrown c2
                have r_c3 := cell_regrown c3
                have r_c4 := cell_regrown c4
                have r_c5 := cell_regrown c5
                go_wp2_with fail
                refine wp_region_qb (by kernel_rfl) (by kernel_rfl) ?_
                repeat (go_big_quiet_step (first | fail))
                refine wpQuiet_nil ?_
                intro w6 hb6
                have B6 := bot B5 hb6
                clear c0 c1 c2 c3 c4 c5 r_c0 r_c1 r_c2 r_c3 r_c4 r_c5 B5 hb6
                go_wp2_with fail
                go_roundw
                case rel => exact Hgoal.out _ _ (by rw [Hend.out]) (bot hbel B6)
                case measure => simp [intOf]; omega
              · have hb2 : (r2 == 999999999) = false := by simp [h2]
                have Hend : Hid (st = geB ++ t1 ++ andB ++ t2) := by unfold Hid; rw [Hst.out, if_neg h12, if_neg h1, if_neg h2]
                clear h12 h1 h2 Hst heq
                go_wp2_with fail
                refine (H3.out _).mono ?_
                rintro e w2 ⟨rfl, hb2⟩
                clear c0 c1 c2 c3 c4 c5
                obtain ⟨c0, c1, c2, c3, c4, c5⟩ := HC.out w2 hb2
                go_wp2_with fail
                refine (H4.out _).mono ?_
                rintro e w3 ⟨rfl, hb3⟩
                have B3 := bot hb2 hb3
                clear c0 c1 c2 c3 c4 c5 hb2 hb3
                obtain ⟨c0, c1, c2, c3, c4, c5⟩ := HC.out w3 B3
                go_wp2_with fail
                refine (H5.out _).mono ?_
                rintro e w4 ⟨rfl, hb4⟩
                have B4 := bot B3 hb4
                clear c0 c1 c2 c3 c4 c5 B3 hb4
                obtain ⟨c0, c1, c2, c3, c4, c5⟩ := HC.out w4 B4
                go_wp2_with fail
                refine (H6.out _).mono ?_
                rintro e w5 ⟨rfl, hb5⟩
                have B5 := bot B4 hb5
                clear c0 c1 c2 c3 c4 c5 B4 hb5
                obtain ⟨c0, c1, c2, c3, c4, c5⟩ := HC.out w5 B5
                have r_c0 := cell_regrown c0
                have r_c1 := cell_regrown c1
                have r_c2 := cell_regrown c2
                have r_c3 := cell_regrown c3
                have r_c4 := cell_regrown c4
                have r_c5 := cell_regrown c5
                go_wp2_with fail
                refine wp_region_qb (by kernel_rfl) (by kernel_rfl) ?_
                repeat (go_big_quiet_step (first | fail))
                refine wpQuiet_nil ?_
                intro w6 hb6
                have B6 := bot B5 hb6
                clear c0 c1 c2 c3 c4 c5 r_c0 r_c1 r_c2 r_c3 r_c4 r_c5 B5 hb6
                go_wp2_with fail
                go_roundw
                case rel => exact Hgoal.out _ _ (by rw [Hend.out]; exact Ha.out) (bot hbel B6)
                case measure => simp [intOf]; omega
      · have hkl : k = l.length := by have := Hnx.out; omega
        have htake : l.take k = l := by rw [hkl]; exact List.take_length
        have He2 : Hid (r = acc) := by unfold Hid; rw [He.out, hacc.out, htake]
        clear hkl htake hacc
        go_wp2_with fail
        go_ret
        exact ⟨ret_str He2.out.symm, bot Hb1.out hbel⟩
end Go.Proofs.YtanipbpphbkmcaaGreatDoor
