/-
  The document's placer: is a directory a spot: walked.
-/
import Derived.Test.YtminjjdnmpaaoaaGreatDoorPp32
set_option autoImplicit false
set_option relaxedAutoImplicit false
set_option linter.unusedVariables false
set_option linter.unusedSimpArgs false
namespace Go.Proofs.YtminjjdnmpaaoaaGreatDoor
open Go.Rows Go.RowKit Go.Shelf Go.Sort

theorem keep8 {w W W' : World} {P : World → Prop} (hb : Below W.heap.size W W') (hB : Below w.heap.size w W) (hP : ∀ V, Below w.heap.size w V → P V) : P W' ∧ Below w.heap.size w W' := ⟨hP _ (bot hB hb), bot hB hb⟩
/-- a directory between, with such a name -/
noncomputable def lowD (T : List Dir) (home from_ : Nat) (s : ByteArray) (d : Dir) : Bool := !(underP d.path (pathAt T home) && (underP (pathAt T from_) d.path && decide (0 ≤ findI T (d.path ++ [s]))))
theorem spotD_eq (T : List Dir) (S : List Stl) (home from_ : Nat) (s : ByteArray) : spotD T S home from_ s = (underP (pathAt T from_) (pathAt T home) && ((T.drop 0).all (lowD T home from_ s) && !turnsB T S home s)) := rfl
theorem allD_at {q : Dir → Bool} {l : List Dir} {k : Nat} {x : Dir} (h : l[k]? = some x) : (l.drop k).all q = (q x && (l.drop (k + 1)).all q) := by
  obtain ⟨hk, e⟩ := List.getElem?_eq_some_iff.1 h
  rw [List.drop_eq_getElem_cons hk, e, List.all_cons]

set_option maxHeartbeats 12800000 in
set_option maxRecDepth 100000 in
theorem spotD_any (C : DlCtx) (w : World) (st : PlSt) (hw : DlWd C w st) (h f : Nat) (hh : h < st.1.length) (hf : f < st.1.length) (s : ByteArray) (hs : s.size ≤ maxLen) (hlen : ∀ d ∈ st.1, d.path.length ≤ 1024) (hst : ∀ x ∈ st.2, x.frm < st.1.length ∧ x.dst < st.1.length) :
    Calls Tryz.prog 100 #[.pointer (some ⟨C.P, 0, none⟩), .int .i64 (h : Int), .int .i64 (f : Int), .string s] w fun e w' => e = .returned (.bool (spotD st.1 st.2 h f s)) ∧ Below w.heap.size w w' := by
  have HW := Lib.hid hw
  obtain ⟨A, c, A', c', hr⟩ := hw.read
  obtain ⟨hl1, hl2⟩ := hr.len
  have HRd := Lib.hid hr
  obtain ⟨b, o, pA, pc, hA, hb, y0, _, hp, hpl, hpm⟩ := hr.dir (dirAt_some hh)
  subst hA
  have HAb : Hid (∀ W (x y : Nat), Below w.heap.size w W → x < st.1.length → y < st.1.length → Calls Tryz.prog 137 #[.pointer (some ⟨C.P, 0, none⟩), .int .i64 (x : Int), .int .i64 (y : Int)] W fun e w' => e = .returned (.bool (underP (pathAt st.1 y) (pathAt st.1 x))) ∧ Below W.heap.size W w') := fun W x y hW hx hy => above_any C W st (hw.keep hW) x y hx hy
  have HPt : Hid (∀ i, i < st.1.length → (pathAt st.1 i).length ≤ 1024) := fun i hi => hlen _ (List.mem_of_getElem? (dirAt_some hi))
  have HIn : Hid (∀ W (i : Nat), Below w.heap.size w W → i < st.1.length → Calls Tryz.prog 102 #[.pointer (some ⟨C.P, 0, none⟩), .int .i64 (i : Int), .string s] W fun e w' => ∃ (A : Option Addr) (c : Nat), e = .returned (.slice A ((pathAt st.1 i).length + 1) c) ∧ SlV rStr w' (fun _ => True) (pathAt st.1 i ++ [s]) (.slice A ((pathAt st.1 i).length + 1) c) ∧ Below W.heap.size W w') := fun W i hW hi =>
    (insideD_any C W st (hw.keep hW) i hi s hs (by have := HPt.out i hi; omega)).mono fun e w' ⟨A, c, h1, h2, h3⟩ => ⟨A, c, h1, h2.more fun _ _ _ => trivial, h3⟩
  have HFi : Hid (∀ W (B : Option Addr) (m d : Nat) (p : List ByteArray), Below w.heap.size w W → SlV rStr W (fun _ => True) p (.slice B m d) → Calls Tryz.prog 93 #[.agg #[.slice (some ⟨b, o, none⟩) st.1.length c], .slice B m d] W fun e w' => e = .returned (.int .i64 (findI st.1 p)) ∧ Below W.heap.size W w') := fun W B m d p hW hp => refFind_any _ _ _ _ _ _ st.1 p W _ _ (hr.dirs.belowSize hW) hp
  have HX : Hid (∀ W, Below w.heap.size w W → W.cell? ⟨C.P, 8, none⟩ = some (.slice (some ⟨b, o, none⟩) st.1.length c) ∧ W.cell? ⟨C.P, 9, none⟩ = some (.slice A' st.2.length c')) := fun W hW => ⟨below_cell hW hr.c8 hr.hP, below_cell hW hr.c9 hr.hP⟩
  have HD : Hid (∀ W (a : Nat), Below w.heap.size w W → a < st.1.length → ∃ pA pc, W.cell? ⟨b, o + a * 9, none⟩ = some (.slice pA (pathAt st.1 a).length pc)) := fun W a hW ha => by
    have h1 := hr.keep hW
    obtain ⟨b', o', pA, pc, hA', _, y, _⟩ := h1.dir (dirAt_some ha)
    injection hA' with hA'
    injection hA' with hb' ho' _
    subst hb' ho'
    exact ⟨pA, pc, y⟩
  have HS : Hid (∀ W, Below w.heap.size w W → SlV rStl W (fun _ => True) st.2 (.slice A' st.2.length c')) := fun W hW => hr.stls.belowSize hW
  have HST := Lib.hid hst
  have HR := Lib.hid (spotD_eq st.1 st.2 h f s)
  have HT0 : Hid (turnsB st.1 st.2 h s = (st.2.drop 0).any (turnOne st.1 h s)) := rfl
  have H1 : Hid (∀ x : Stl, turnOne st.1 h s x = (decide (x.label = s) && (underP (pathAt st.1 x.frm) (pathAt st.1 h) && decide ((pathAt st.1 x.dst).length ≤ (pathAt st.1 h).length)))) := fun x => rfl
  have H2 : Hid (∀ i, i < st.1.length → lowD st.1 h f s (dirAt st.1 i) = !(underP (pathAt st.1 i) (pathAt st.1 h) && (underP (pathAt st.1 f) (pathAt st.1 i) && decide (0 ≤ findI st.1 (pathAt st.1 i ++ [s]))))) := fun i _ => rfl
  have Hat : Hid (∀ i, i < st.1.length → st.1[i]? = some (dirAt st.1 i)) := fun i hi => dirAt_some hi
  have hPz := hr.hP
  clear hr hw hp hst hlen y0 hpl hpm
  obtain ⟨n, hn⟩ : ∃ n, n = st.1.length := ⟨_, rfl⟩
  obtain ⟨m, hm⟩ : ∃ m, m = st.2.length := ⟨_, rfl⟩
  rw [← hn] at hh hf hl1 HAb HPt HIn HFi HX HD HST H2 Hat
  rw [← hm] at HX HS hl2
  have Hn := Lib.hid hn
  have Hm := Lib.hid hm
  clear hn hm
  generalize spotD st.1 st.2 h f s = R at *
  generalize turnsB st.1 st.2 h s = TB at *
  generalize C.P = PB at *
  have hh0 : (0 : Int) ≤ (h : Int) := by omega
  have hhn : (h : Int) < (n : Int) := by omega
  go_enter Tryz.func100, Tryz.ntmps100
  have HA0 := Lib.hid (HAb.out w h f (Below.refl _ _) hh hf)
  generalize hu : underP (pathAt st.1 f) (pathAt st.1 h) = u at *
  clear hu
  cases u with
  | false =>
    have He : Hid (R = false) := HR.out
    clear HR
    go_wp2_with fail
    refine HA0.out.mono ?_
    rintro e w1 ⟨rfl, B1⟩
    go_wp2_with fail
    go_ret
    exact ⟨ret_bool He.out.symm, B1⟩
  | true =>
  have HR1 : Hid (R = ((st.1.drop 0).all (lowD st.1 h f s) && !TB)) := HR.out
  clear HR
  go_wp2_with fail
  refine HA0.out.mono ?_
  rintro e w1 ⟨rfl, B1⟩
  have HB1 := Lib.hid B1
  clear B1 HA0
  go_wp2_with fail
  go_loopw [10] (fun t wr => ∃ k : Nat, k ≤ n ∧ t = .int .i64 k ∧ Hid (R = ((st.1.drop k).all (lowD st.1 h f s) && !TB)) ∧ Hid (Below w.heap.size w wr)) (fun t _ => n - (intOf t).toNat)
  case atStart => exact ⟨0, Nat.zero_le _, rfl, HR1, HB1⟩
  case round =>
    clear HR1 HB1
    obtain ⟨k, hk, rfl, heq, hbel⟩ := hrel
    have hk0 : (0 : Int) ≤ (k : Int) := by omega
    obtain ⟨x8, x9⟩ := HX.out wr hbel.out
    by_cases hlt : k < n
    case neg =>
      have HR2 : Hid (R = !((st.2.drop 0).any (turnOne st.1 h s))) := by
        unfold Hid; rw [heq.out, List.drop_eq_nil_of_le (by have := Hn.out; omega), ← HT0.out]; rfl
      have hI : ¬ (k : Int) < (n : Int) := by omega
      clear heq HT0
      generalize wr = wa at *
      go_wp2_with fail
      go_loopw [13] (fun t wr => ∃ k : Nat, k ≤ m ∧ t = .int .i64 k ∧ Hid (R = !((st.2.drop k).any (turnOne st.1 h s))) ∧ Hid (Below w.heap.size w wr)) (fun t _ => m - (intOf t).toNat)
      case atStart => exact ⟨0, Nat.zero_le _, rfl, HR2, hbel⟩
      case round =>
        clear HR2 hbel x8 x9 hI hk0 hlt hk
        obtain ⟨k, hk, rfl, heq, hbel⟩ := hrel
        have hk0 : (0 : Int) ≤ (k : Int) := by omega
        obtain ⟨x8, x9⟩ := HX.out wr hbel.out
        by_cases hlt : k < m
        case neg =>
          have He : Hid (R = true) := by unfold Hid; rw [heq.out, List.drop_eq_nil_of_le (by have := Hm.out; omega)]; rfl
          have hI : ¬ (k : Int) < (m : Int) := by omega
          clear heq
          go_wp2_with fail
          go_ret
          exact ⟨ret_bool He.out.symm, hbel.out⟩
        have hkn : (k : Int) < (m : Int) := by omega
        obtain ⟨x, hx⟩ : ∃ x, st.2[k]? = some x := ⟨_, List.getElem?_eq_getElem (by have := Hm.out; omega)⟩
        obtain ⟨e1, e2⟩ := HST.out x (List.mem_of_getElem? hx)
        obtain ⟨b', o', cs, hA, _, hb1, ⟨rfl, hlz, hfz, hdz⟩, hcell⟩ := (HS.out wr hbel.out).elem hx
        have HA := Lib.hid hA
        rw [hA] at x9
        have c0 := hcell 0 _ rfl
        have c1 := hcell 1 _ rfl
        have c2 := hcell 2 _ rfl
        simp only [rStl, Nat.add_zero] at c0 c1 c2
        have Hst2 : Hid (R = !((decide (x.label = s) && (underP (pathAt st.1 x.frm) (pathAt st.1 h) && decide ((pathAt st.1 x.dst).length ≤ (pathAt st.1 h).length))) || (st.2.drop (k + 1)).any (turnOne st.1 h s))) := by unfold Hid; rw [heq.out, anyS_at hx, H1.out]
        have HA1 := Lib.hid (HAb.out wr h x.frm hbel.out hh e1)
        have hld := HPt.out x.dst e2
        have hlh := HPt.out h hh
        clear hcell hlz heq hA hx
        obtain ⟨xf, xl, xd⟩ := x
        simp only at c0 c1 c2 hfz hdz Hst2 HA1 e1 e2 hld
        go_wp2_with fail
        refine HA1.out.mono ?_
        rintro e w4 ⟨rfl, B4⟩
        have HB4 := Lib.hid (bot hbel.out B4)
        have d1 := below_cell B4 c1 hb1
        have d2 := below_cell B4 c2 hb1
        clear x8 x9 c0 c1 c2 B4 HA1
        obtain ⟨x8, x9⟩ := HX.out w4 HB4.out
        rw [HA.out] at x9
        obtain ⟨qA, qc, y1⟩ := HD.out w4 xd HB4.out e2
        obtain ⟨rA, rc, y2⟩ := HD.out w4 h HB4.out hh
        have Hbf : Hid (∀ W, Below w4.heap.size w4 W → Below w.heap.size w W) := fun W hW => bot HB4.out hW
        have hd0 : (0 : Int) ≤ (xd : Int) := by omega
        have hdn : (xd : Int) < (n : Int) := by omega
        generalize underP (pathAt st.1 xf) (pathAt st.1 h) = u at *
        generalize (pathAt st.1 xd).length = ld at *
        generalize (pathAt st.1 h).length = lh at *
        have hwl : IntKind.i64.wrap ((ld : Int) - 1) = (ld : Int) - 1 := IntWalk.i64_in _ ⟨by omega, by omega⟩
        go_upto_region 15 with (fail)
        by_cases h2 : xl = s
        case neg =>
          have hb2 := beq_false h2
          have He : Hid (R = !((st.2.drop (k + 1)).any (turnOne st.1 h s))) := by unfold Hid; rw [Hst2.out, decide_eq_false h2]; rfl
          clear h2 Hst2
          have r_d1 := cell_regrown d1
          have r_d2 := cell_regrown d2
          have r_x8 := cell_regrown x8
          have r_x9 := cell_regrown x9
          have r_y1 := cell_regrown y1
          have r_y2 := cell_regrown y2
          go_wp2_with fail
          refine wp_region_qb (by kernel_rfl) (by kernel_rfl) ?_
          repeat (go_big_quiet_step (first | fail))
          refine wpQuiet_nil ?_
          intro w5 B5
          have HB5 := Lib.hid (Hbf.out _ B5)
          go_wp2_with fail
          go_roundw
          case rel => exact ⟨k + 1, by omega, by go_num, He, HB5⟩
          case measure => simp [intOf]; omega
        have hb2 := beq_true h2
        rw [decide_eq_true h2, Bool.true_and] at Hst2
        clear h2
        cases u with
        | false =>
          have He : Hid (R = !((st.2.drop (k + 1)).any (turnOne st.1 h s))) := by unfold Hid; rw [Hst2.out]; rfl
          clear Hst2
          have r_d1 := cell_regrown d1
          have r_d2 := cell_regrown d2
          have r_x8 := cell_regrown x8
          have r_x9 := cell_regrown x9
          have r_y1 := cell_regrown y1
          have r_y2 := cell_regrown y2
          go_wp2_with fail
          refine wp_region_qb (by kernel_rfl) (by kernel_rfl) ?_
          repeat (go_big_quiet_step (first | fail))
          refine wpQuiet_nil ?_
          intro w5 B5
          have HB5 := Lib.hid (Hbf.out _ B5)
          go_wp2_with fail
          go_roundw
          case rel => exact ⟨k + 1, by omega, by go_num, He, HB5⟩
          case measure => simp [intOf]; omega
        | true =>
        by_cases h3 : ld ≤ lh
        · have hI : (ld : Int) - 1 < (lh : Int) := by omega
          have hId : decide ((ld : Int) - 1 < (lh : Int)) = true := decide_eq_true hI
          have He : Hid (R = false) := by unfold Hid; rw [Hst2.out, decide_eq_true h3]; rfl
          clear Hst2
          have r_d1 := cell_regrown d1
          have r_d2 := cell_regrown d2
          have r_x8 := cell_regrown x8
          have r_x9 := cell_regrown x9
          have r_y1 := cell_regrown y1
          have r_y2 := cell_regrown y2
          go_wp2_with fail
          refine wp_region_qb (by kernel_rfl) (by kernel_rfl) ?_
          repeat (go_big_quiet_step (first | fail))
          refine wpQuiet_nil ?_
          intro w5 B5
          have HB5 := Lib.hid (Hbf.out _ B5)
          go_wp2_with fail
          go_ret
          exact ⟨ret_bool He.out.symm, HB5.out⟩
        · have hI : ¬ (ld : Int) - 1 < (lh : Int) := by omega
          have hId : decide ((ld : Int) - 1 < (lh : Int)) = false := decide_eq_false hI
          have He : Hid (R = !((st.2.drop (k + 1)).any (turnOne st.1 h s))) := by unfold Hid; rw [Hst2.out, decide_eq_false h3]; rfl
          clear Hst2
          have r_d1 := cell_regrown d1
          have r_d2 := cell_regrown d2
          have r_x8 := cell_regrown x8
          have r_x9 := cell_regrown x9
          have r_y1 := cell_regrown y1
          have r_y2 := cell_regrown y2
          go_wp2_with fail
          refine wp_region_qb (by kernel_rfl) (by kernel_rfl) ?_
          repeat (go_big_quiet_step (first | fail))
          refine wpQuiet_nil ?_
          intro w5 B5
          have HB5 := Lib.hid (Hbf.out _ B5)
          go_wp2_with fail
          go_roundw
          case rel => exact ⟨k + 1, by omega, by go_num, He, HB5⟩
          case measure => simp [intOf]; omega
    have hkn : (k : Int) < (n : Int) := by omega
    have Hst2 := Lib.hid (heq.out.trans (congrArg (· && !TB) ((allD_at (q := lowD st.1 h f s) (Hat.out k hlt)).trans (congrArg (· && (st.1.drop (k + 1)).all (lowD st.1 h f s)) (H2.out k hlt)))))
    have HA1 := Lib.hid (HAb.out wr h k hbel.out hh hlt)
    have HA2 : Hid (∀ W, Below wr.heap.size wr W → _) := fun W hW => HAb.out W k f (bot hbel.out hW) hlt hf
    have HI1 : Hid (∀ W, Below w.heap.size w W → _) := fun W hW => HIn.out W k hW hlt
    clear heq
    generalize underP (pathAt st.1 k) (pathAt st.1 h) = u1 at *
    generalize underP (pathAt st.1 f) (pathAt st.1 k) = u2 at *
    go_wp2_with fail
    refine HA1.out.mono ?_
    rintro e w3 ⟨rfl, B3⟩
    have HB3 := Lib.hid (bot hbel.out B3)
    have HA3 := Lib.hid (HA2.out w3 B3)
    clear B3 HA1 HA2 x8 x9
    go_wp2_with fail
    refine HA3.out.mono ?_
    rintro e w4 ⟨rfl, B4⟩
    have HB4 := Lib.hid (bot HB3.out B4)
    clear B4 HA3 HB3
    obtain ⟨x8, x9⟩ := HX.out w4 HB4.out
    have Hbf : Hid (∀ W, Below w4.heap.size w4 W → Below w.heap.size w W) := fun W hW => bot HB4.out hW
    go_upto_region 9 with (fail)
    by_cases hu : u1 = true ∧ u2 = true
    case neg =>
      have He : Hid (R = ((st.1.drop (k + 1)).all (lowD st.1 h f s) && !TB)) := by
        unfold Hid; rw [Hst2.out]
        cases u1 with
        | false => rfl
        | true => cases u2 with
          | false => rfl
          | true => exact absurd ⟨rfl, rfl⟩ hu
      clear Hst2
      cases u1 with
      | false =>
        have r_x8 := cell_regrown x8
        go_wp2_with fail
        refine wp_region_qb (by kernel_rfl) (by kernel_rfl) ?_
        repeat (go_big_quiet_step (first | fail))
        refine wpQuiet_nil ?_
        intro w5 B5
        have HB5 := Lib.hid (Hbf.out _ B5)
        go_wp2_with fail
        go_roundw
        case rel => exact ⟨k + 1, by omega, by go_num, He, HB5⟩
        case measure => simp [intOf]; omega
      | true =>
      cases u2 with
      | true => exact absurd ⟨rfl, rfl⟩ hu
      | false =>
        have r_x8 := cell_regrown x8
        go_wp2_with fail
        refine wp_region_qb (by kernel_rfl) (by kernel_rfl) ?_
        repeat (go_big_quiet_step (first | fail))
        refine wpQuiet_nil ?_
        intro w5 B5
        have HB5 := Lib.hid (Hbf.out _ B5)
        go_wp2_with fail
        go_roundw
        case rel => exact ⟨k + 1, by omega, by go_num, He, HB5⟩
        case measure => simp [intOf]; omega
    obtain ⟨rfl, rfl⟩ := hu
    rw [Bool.true_and, Bool.true_and] at Hst2
    have HF2 : Hid (∀ W (B : Option Addr) (m d : Nat), Below w.heap.size w W → SlV rStr W (fun _ => True) (pathAt st.1 k ++ [s]) (.slice B m d) → Calls Tryz.prog 93 #[.agg #[.slice (some ⟨b, o, none⟩) n c], .slice B m d] W fun e w' => e = .returned (.int .i64 (findI st.1 (pathAt st.1 k ++ [s]))) ∧ Below W.heap.size W w') := fun W B m d hW hp => HFi.out W B m d _ hW hp
    have HX8 : Hid (∀ W, Below w.heap.size w W → W.cell? ⟨PB, 8, none⟩ = some (.slice (some ⟨b, o, none⟩) n c)) := fun W hW => (HX.out W hW).1
    generalize findI st.1 (pathAt st.1 k ++ [s]) = fi at *
    generalize pathAt st.1 k ++ [s] = jp at *
    generalize (pathAt st.1 k).length = lk at *
    go_region_held3 (fun w' => w'.cell? ⟨PB, 8, none⟩ = some (.slice (some ⟨b, o, none⟩) n c) ∧ Below w.heap.size w w')
        (first
          | exact ⟨x8, HB4.out.drew⟩
          | (go_split_ands; exact keep8 (by assumption) (by assumption) HX8.out))
        (first
          | (go_at_call 102; go_split_ands; with_reducible refine (HI1.out _ (by assumption)).mono ?_; rintro e w5 ⟨vA, vc, rfl, hv, hb2⟩)
          | (go_at_call 93; go_split_ands; with_reducible refine (HF2.out _ _ _ _ (by assumption) (by assumption)).mono ?_; rintro e w6 ⟨rfl, hb3⟩))
    all_goals
      have HBw : Hid (Below w.heap.size w w6) := by (go_split_ands; assumption)
      by_cases hfi : 0 ≤ fi
      · have He : Hid (R = false) := by unfold Hid; rw [Hst2.out, decide_eq_true hfi]; rfl
        clear Hst2
        go_wp2_with fail
        go_ret
        exact ⟨ret_bool He.out.symm, HBw.out⟩
      · have hfk : decide (0 ≤ fi) = false := decide_eq_false hfi
        have He : Hid (R = ((st.1.drop (k + 1)).all (lowD st.1 h f s) && !TB)) := by unfold Hid; rw [Hst2.out, hfk]; rfl
        clear Hst2
        go_wp2_with fail
        go_roundw
        case rel => exact ⟨k + 1, by omega, by go_num, He, HBw⟩
        case measure => simp [intOf]; omega
end Go.Proofs.YtminjjdnmpaaoaaGreatDoor
