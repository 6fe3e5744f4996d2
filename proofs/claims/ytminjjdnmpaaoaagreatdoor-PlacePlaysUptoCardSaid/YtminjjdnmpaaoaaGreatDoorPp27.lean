/-
  The program's placer: one edge of a directory: walked.
  The program's placer: is an edge one that the context names; the library's search over pins and over edges: walked.
-/
import Derived.Test.YtminjjdnmpaaoaaGreatDoorPp26
import Derived.Test.YtminjjdnmpaaoaaGreatDoorPp18
import Derived.Deep.CutRange
set_option autoImplicit false
set_option relaxedAutoImplicit false
set_option linter.unusedVariables false
set_option linter.unusedSimpArgs false
namespace Go.Proofs.YtminjjdnmpaaoaaGreatDoor
open Go.Rows Go.RowKit Go.Shelf Go.Sort

theorem joined_ge : ∀ (l : List ByteArray), l.length ≤ (joined l).length
  | [] => Nat.zero_le _
  | x :: l => by
    have := joined_ge l
    rw [joined, List.length_append, List.length_append, List.length_cons]
    have h : stepB.data.toList.length = 9 := rfl
    omega
theorem path_len {p : List ByteArray} (h : p.all nameB = true) : p.length ≤ (textB p).size := by
  unfold textB
  split
  · rename_i e; rw [e]; exact Nat.zero_le _
  · have := joined_ge p
    simp [ByteArray.size, h]
    omega
theorem putP_err {q : PlIn} {T : List Dir} {h n : Nat} {c : Int} (e : putP q T h n = .error c) : c = 40 ∨ c = 41 := by
  unfold putP at e
  split at e
  · cases e; exact .inl rfl
  · split at e
    · cases e; exact .inr rfl
    · cases e
theorem stepE_right {q : PlIn} {at_ kind : Nat} {e : Edge} {st : PlSt} (h : rightP q st at_ kind e = true) : stepE q at_ kind e st = .ok (st.1, st.2 ++ [⟨at_, e.label, (lookI st.1 (at_ : Int) e.label).toNat⟩]) := by
  unfold stepE; rw [if_pos h]
theorem stepE_err {q : PlIn} {at_ kind : Nat} {e : Edge} {st : PlSt} (h : rightP q st at_ kind e = false) (hk : kind ≠ 1) {c : Int} (hp : putP q st.1 (homeP q st at_ kind e).toNat e.to.toNat = .error c) : stepE q at_ kind e st = .error c := by
  unfold stepE; rw [if_neg (by rw [h]; decide), if_neg hk, hp]
theorem stepE_put {q : PlIn} {at_ kind : Nat} {e : Edge} {st : PlSt} (h : rightP q st at_ kind e = false) (hk : kind ≠ 1) {T : List Dir} (hp : putP q st.1 (homeP q st at_ kind e).toNat e.to.toNat = .ok T) : stepE q at_ kind e st = .ok (T, st.2 ++ [⟨at_, e.label, st.1.length⟩]) := by
  unfold stepE; rw [if_neg (by rw [h]; decide), if_neg hk, hp]
theorem rightP_eq (q : PlIn) (st : PlSt) (at_ kind : Nat) (e : Edge) (free : Bool) (hf : free = decide (kind ≠ 3)) : rightP q st at_ kind e = (decide (0 ≤ lookI st.1 (at_ : Int) e.label) && (decide ((dirAt st.1 (lookI st.1 (at_ : Int) e.label).toNat).node = e.to) && (free || seesB q.g st.1 st.2 (lookI st.1 (at_ : Int) e.label).toNat at_))) := by
  rw [hf]; rfl

set_option maxHeartbeats 6400000 in
set_option maxRecDepth 100000 in
theorem own_any (C : PlCtx) (hC : C.Ok) (w : World) (st : PlSt) (hw : PlWd C w st) {at_ : Nat} {done : List ByteArray} (hinv : PlInv C.q at_ done st) {d : Dir} (hd : st.1[at_]? = some d) (s : ByteArray) (tn : Nat) (hsd : s ∉ done) (hsz : s.size ≤ maxLen) {n : Node} (hn : C.q.g[tn]? = some n) (hns : n.name = s)
    {x : Pack} (hx : C.q.ps[tn]? = some x) (hsm : SmallP x) (hst : st.2.length ≤ 900000) (kind : Nat) (hk : kind = 2 ∧ n.ctx.length = 0 ∨ kind = 3 ∧ n.ctx.length ≠ 0) :
    Calls Tryz.prog 50 #[.pointer (some ⟨C.P, 0, none⟩), .int .i64 (at_ : Int), .agg #[.string s, .int .i64 (tn : Int)]] w fun e w' =>
      (∃ c, stepE C.q at_ kind ⟨s, (tn : Int)⟩ st = .error c ∧ e = .returned (.int .i64 c) ∧ (c = 40 ∨ c = 41) ∧ PlWd C w' st ∧ PlFr C w w') ∨ (∃ st', stepE C.q at_ kind ⟨s, (tn : Int)⟩ st = .ok st' ∧ e = .returned (.int .i64 0) ∧ PlWd C w' st' ∧ PlFr C w w') := by
  have hbase := hw.base
  obtain ⟨A, c, A', c', hr⟩ := hw.read
  have HW := Lib.hid hw
  have HC := Lib.hid hC
  have hHP := hr.hP
  have hat := (List.getElem?_eq_some_iff.1 hd).1
  have hll := hinv.len
  obtain ⟨gb, go, xA, xc, eA, ec, hgA, hgb, hgn, n0, n1, n2, n3, n4, n5, _⟩ := hr.node hC hbase hn
  have hgcap := slv_len hC.g
  have hlenD : ∀ d ∈ st.1, d.path.length ≤ 1024 := fun d hd => Nat.le_trans (path_len (hinv.names d hd).1) (hinv.names d hd).2
  have HLk : Hid (∀ W, Below w.heap.size w W → Calls Tryz.prog 17 #[.agg #[.slice A st.1.length c], .int .i64 (at_ : Int), .string s] W fun e w' => e = .returned (.int .i64 (lookI st.1 (at_ : Int) s)) ∧ Below W.heap.size W w') := fun W hW => look_any A _ c st.1 s W _ _ hsz (fun d hd => by have := hlenD d hd; omega) (hr.dirs.belowSize hW)
  have HSp : Hid (∀ W, Below w.heap.size w W → Calls Tryz.prog 80 #[.pointer (some ⟨C.P, 0, none⟩), .int .i64 (at_ : Int), .int .i64 (tn : Int)] W fun e w' => e = .returned (.int .i64 (spotI st.1 st.2 C.q.old d.path s x)) ∧ Below W.heap.size W w') := fun W hW => by
    have := spot_any C hC W st (hw.keep hC hW) hinv at_ tn hd hn hx (fun d hd => by have := hlenD d hd; omega)
    rw [hns] at this
    exact this
  have HBs : Hid (∀ W (j : Nat), Below w.heap.size w W → j < st.1.length → (dirAt st.1 j).node = (tn : Int) → Calls Tryz.prog 79 #[.pointer (some ⟨C.P, 0, none⟩), .int .i64 (j : Int), .int .i64 (at_ : Int)] W fun e w' => e = .returned (.bool (seesB C.q.g st.1 st.2 j at_)) ∧ Below W.heap.size W w') := fun W j hW hj hjn => beside_any C hC W st (hw.keep hC hW) j at_ hj (by omega) hjn hn (fun d hd => by have := hlenD d hd; omega)
  have hxp : packAt C.q tn = x := by unfold packAt; rw [List.getD_eq_getElem?_getD, hx]; rfl
  have HHm : Hid (∃ (i : Nat) (f : Dir), homeP C.q st at_ kind ⟨s, (tn : Int)⟩ = (i : Int) ∧ st.1[i]? = some f ∧ f.path.length ≤ 1024) := by
    obtain ⟨i, f, h1, h2, h3, h4⟩ := homeP_ok hinv hd kind (e := ⟨s, (tn : Int)⟩) hsd
    exact ⟨i, f, h1, h2, hlenD f (List.mem_of_getElem? h2)⟩
  have Hh2 : Hid (kind = 2 → homeP C.q st at_ kind ⟨s, (tn : Int)⟩ = spotI st.1 st.2 C.q.old d.path s x) := fun h => by
    unfold homeP; rw [if_pos h, pathAt_of hd, Int.toNat_natCast, hxp]
  have Hh3 : Hid (kind = 3 → homeP C.q st at_ kind ⟨s, (tn : Int)⟩ = (at_ : Int)) := fun h => by
    unfold homeP; rw [if_neg (by omega)]
  obtain ⟨fr, hfr⟩ : ∃ fr, ((n.ctx.length : Int) == 0) = fr := ⟨_, rfl⟩
  have Hkf : Hid (kind ≠ 1 ∧ fr = decide (kind ≠ 3) ∧ (fr = true → kind = 2) ∧ (fr = false → kind = 3)) := by
    rcases hk with ⟨h1, h2⟩ | ⟨h1, h2⟩
    · rw [h2] at hfr; subst h1; rw [← hfr]; exact ⟨by decide, by decide, fun _ => rfl, fun h => by simp at h⟩
    · have : fr = false := by rw [← hfr]; exact beq_eq_false_iff_ne.2 (by omega)
      subst h1; rw [this]; exact ⟨by decide, by decide, fun h => (by cases h), fun _ => rfl⟩
  have Hrt : Hid (rightP C.q st at_ kind ⟨s, (tn : Int)⟩ = (decide (0 ≤ lookI st.1 (at_ : Int) s) && (decide ((dirAt st.1 (lookI st.1 (at_ : Int) s).toNat).node = (tn : Int)) && (fr || seesB C.q.g st.1 st.2 (lookI st.1 (at_ : Int) s).toNat at_)))) := rightP_eq _ _ _ _ _ fr Hkf.out.2.1
  have Hlt : Hid (0 ≤ lookI st.1 (at_ : Int) s → (lookI st.1 (at_ : Int) s).toNat < st.1.length) := look_lt
  have HDn : Hid (∀ W (j : Nat), Below w.heap.size w W → j < st.1.length → ∃ b o : Nat, A = some ⟨b, o, none⟩ ∧ W.cell? ⟨b, o + j * 9 + 8, none⟩ = some (.int .i64 (dirAt st.1 j).node)) := fun W j hW hj => by
    obtain ⟨b, o, _, _, h1, _, _, h2, _⟩ := (hr.keep hW).dir (dirAt_some hj)
    exact ⟨b, o, h1, h2⟩
  have HX : Hid (∀ W, Below w.heap.size w W → W.cell? ⟨C.P, 0, none⟩ = some (.slice (some ⟨gb, go, none⟩) C.gn C.gc) ∧ W.cell? ⟨gb, go + tn * 6 + 4, none⟩ = some (.slice xA n.ctx.length xc) ∧ W.cell? ⟨C.P, 7, none⟩ = some (.slice A st.1.length c)) := fun W hW => ⟨by rw [← hgA]; exact below_cell hW hr.c0 hHP, below_cell hW n4 (Nat.lt_of_lt_of_le hgb hbase.size), below_cell hW hr.c7 hHP⟩
  have HPu : Hid (∀ W (i : Nat) (f : Dir), PlWd C W st → st.1[i]? = some f → f.path.length ≤ 1024 → Calls Tryz.prog 81 #[.pointer (some ⟨C.P, 0, none⟩), .int .i64 (i : Int), .int .i64 (tn : Int)] W fun e w' =>
      (∃ c, putP C.q st.1 i tn = .error c ∧ e = .returned (.tuple #[.int .i64 0, .int .i64 c]) ∧ PlWd C w' st ∧ PlFr C W w') ∨ (∃ T, putP C.q st.1 i tn = .ok T ∧ e = .returned (.tuple #[.int .i64 (st.1.length : Int), .int .i64 0]) ∧ PlWd C w' (T, st.2) ∧ PlFr C W w')) := fun W i f hW hf hfl => put_any C hC W st hW i tn hf hx hsm hll hfl (by have := (List.getElem?_eq_some_iff.1 hx).1; have := hC.pz; omega)
  have HSe : Hid (∀ W (T : List Dir) (j : Nat), PlWd C W (T, st.2) → j ≤ 1000000 → Calls Tryz.prog 49 #[.pointer (some ⟨C.P, 0, none⟩), .int .i64 (at_ : Int), .string s, .int .i64 (j : Int)] W fun e w' => e = .returned (.tuple #[]) ∧ PlWd C w' (T, st.2 ++ [⟨at_, s, j⟩]) ∧ PlFr C W w') := fun W T j hW hj => settle_any C hC W (T, st.2) hW at_ j (by omega) hj s hsz (by show st.2.length ≤ _; omega)
  have HE1 : Hid (rightP C.q st at_ kind ⟨s, (tn : Int)⟩ = true → stepE C.q at_ kind ⟨s, (tn : Int)⟩ st = .ok (st.1, st.2 ++ [⟨at_, s, (lookI st.1 (at_ : Int) s).toNat⟩])) := stepE_right
  have HE2 : Hid (∀ (i : Nat) (c : Int), rightP C.q st at_ kind ⟨s, (tn : Int)⟩ = false → homeP C.q st at_ kind ⟨s, (tn : Int)⟩ = (i : Int) → putP C.q st.1 i tn = .error c → stepE C.q at_ kind ⟨s, (tn : Int)⟩ st = .error c) := fun i c h1 h2 h3 => stepE_err h1 Hkf.out.1 (by rw [h2, Int.toNat_natCast, Int.toNat_natCast]; exact h3)
  have HE3 : Hid (∀ (i : Nat) (T : List Dir), rightP C.q st at_ kind ⟨s, (tn : Int)⟩ = false → homeP C.q st at_ kind ⟨s, (tn : Int)⟩ = (i : Int) → putP C.q st.1 i tn = .ok T → stepE C.q at_ kind ⟨s, (tn : Int)⟩ st = .ok (T, st.2 ++ [⟨at_, s, st.1.length⟩])) := fun i T h1 h2 h3 => stepE_put h1 Hkf.out.1 (by rw [h2, Int.toNat_natCast, Int.toNat_natCast]; exact h3)
  have HHd := Lib.hid hd
  have HlD := Lib.hid hlenD
  clear hr hw hC hn hx hsm hk hbase hgA hgb n0 n1 n2 n3 n4 n5 hinv hxp hd hlenD hns
  obtain ⟨N, hN⟩ : ∃ N, N = st.1.length := ⟨_, rfl⟩
  rw [← hN] at hat hll HLk HX Hlt HBs HDn HE3 HPu
  have HN := Lib.hid hN
  clear hN
  generalize stepE C.q at_ kind ⟨s, (tn : Int)⟩ st = R at *
  generalize rightP C.q st at_ kind ⟨s, (tn : Int)⟩ = rt at *
  generalize homeP C.q st at_ kind ⟨s, (tn : Int)⟩ = hm at *
  generalize lookI st.1 (at_ : Int) s = L at *
  obtain ⟨m4, hm4⟩ : ∃ m, m = n.ctx.length := ⟨_, rfl⟩
  rw [← hm4] at hfr HX
  clear hm4
  have hat0 : (0 : Int) ≤ (at_ : Int) := by omega
  have htn0 : (0 : Int) ≤ (tn : Int) := by omega
  have htg : (tn : Int) < (C.gn : Int) := by omega
  go_enter Tryz.func50, Tryz.ntmps50
  go_upto_region 1 with (fail)
  obtain ⟨w1, hw1⟩ : ∃ w1, w1 = w.alloc (.cells #[.string s, .int .i64 (tn : Int)] 61) := ⟨_, rfl⟩
  have hq1 : w1.heap[w.heap.size]? = some (.cells #[.string s, .int .i64 (tn : Int)] 61 (0, 0)) := by rw [hw1]; exact heap_new _ _
  have hB1 : Below w.heap.size w w1 := by rw [hw1]; exact bal (Below.refl _ _) _
  rw [← hw1]
  have HB1 := Lib.hid hB1
  have hz1 : w.heap.size < w1.heap.size := (Array.getElem?_eq_some_iff.1 hq1).1
  obtain ⟨EB, hEB⟩ : ∃ k, k = w.heap.size := ⟨_, rfl⟩
  rw [← hEB] at hq1 hz1 ⊢
  have He : Hid (∀ W, Below w1.heap.size w1 W → W.cell? ⟨EB, 0, none⟩ = some (.string s) ∧ W.cell? ⟨EB, 1, none⟩ = some (.int .i64 (tn : Int))) := fun W hW => ⟨below_cell hW (cell_of_row _ _ 0 _ _ _ hq1) hz1, below_cell hW (cell_of_row _ _ 1 _ _ _ hq1) hz1⟩
  have HNE : Hid (∀ W, Below w.heap.size w W → NotPl C W EB) := fun W hW => by
    obtain ⟨A2, c2, A2', c2', S2, hpp⟩ := HW.out.parts
    have hk := hpp.keep hW
    refine ⟨by omega, fun v hv e => ?_, fun v hv e => ?_⟩
    · rw [cell_of_row _ _ 7 _ _ _ hk.row] at hv
      cases hv
      have := (hpp.T.lt _ e).2; omega
    · rw [cell_of_row _ _ 8 _ _ _ hk.row] at hv
      cases hv
      have := (hpp.S'.lt _ e).2; omega
  clear hw1 hq1 hB1 hEB
  obtain ⟨x0, x4, x7⟩ := HX.out w1 HB1.out
  obtain ⟨e0, e1⟩ := He.out w1 (Below.refl _ _)
  have r_x0 := cell_regrown x0
  have r_x4 := cell_regrown x4
  have r_e1 := cell_regrown e1
  go_wp2_with fail
  refine wp_region_qb (by kernel_rfl) (by kernel_rfl) ?_
  repeat (go_big_quiet_step (first | fail))
  refine wpQuiet_nil ?_
  intro w2 B2
  have HB12 := Lib.hid B2
  clear r_x0 r_x4 r_e1 x0 x4 x7 e0 e1 B2
  obtain ⟨x0, x4, x7⟩ := HX.out w2 (bot HB1.out HB12.out)
  obtain ⟨e0, e1⟩ := He.out w2 HB12.out
  have HLq := Lib.hid (qcall (w := w2) (fun W hW => HLk.out W (bot (bot HB1.out HB12.out) hW)))
  go_upto_region 2 with (fail)
  have r_x7 := cell_regrown x7
  have r_e0 := cell_regrown e0
  go_wp2_with fail
  refine wp_region_qb (by kernel_rfl) (by kernel_rfl) ?_
  repeat (go_big_quiet_step (first | (with_reducible exact HLq.out _ _)))
  refine wpQuiet_nil ?_
  intro w3 B3
  have HB13 := Lib.hid (bot HB12.out B3)
  clear r_x7 r_e0 x0 x4 x7 e0 e1 B3 HLq HB12
  obtain ⟨x0, x4, x7⟩ := HX.out w3 (bot HB1.out HB13.out)
  obtain ⟨e0, e1⟩ := He.out w3 HB13.out
  go_upto_region 3 with (fail)
  go_cut [57] from 31 to 57 (fun bv wx => bv = .bool (!rt) ∧ Hid (Below w1.heap.size w1 wx))
  case first =>
    by_cases hL : 0 ≤ L
    case neg =>
      have hr : rt = false := by rw [Hrt.out, decide_eq_false hL]; rfl
      have hLd : decide (L < 0) = true := decide_eq_true (by omega)
      clear hL Hrt
      subst hr
      have r_x7 := cell_regrown x7
      have r_e1 := cell_regrown e1
      go_wp2_with fail
      refine wp_region_qb (by kernel_rfl) (by kernel_rfl) ?_
      repeat (go_big_quiet_step (first | fail))
      refine wpQuiet_nil ?_
      intro w4 B4
      have HB4 := Lib.hid (bot HB13.out B4)
      go_wp2_with fail
      go_meet
      exact ⟨rfl, HB4⟩
    obtain ⟨j, hj⟩ : ∃ j : Nat, L = (j : Int) := ⟨L.toNat, by omega⟩
    subst hj
    have hjN : j < N := Hlt.out hL
    obtain ⟨b, o, hA, y8⟩ := HDn.out w3 j (bot HB1.out HB13.out) hjN
    subst hA
    have hLd : decide ((j : Int) < 0) = false := decide_eq_false (by omega)
    have hjI : (j : Int) < (N : Int) := by omega
    have Hbs := Lib.hid (fun h => qcall (w := w3) (fun W hW => HBs.out W j (bot (bot HB1.out HB13.out) hW) hjN h))
    rw [Int.toNat_natCast, decide_eq_true hL, Bool.true_and] at Hrt
    generalize (dirAt st.1 j).node = nj at *
    generalize seesB C.q.g st.1 st.2 j at_ = sees at *
    by_cases hn : nj = (tn : Int)
    case neg =>
      have hr : rt = false := by rw [Hrt.out, decide_eq_false hn]; rfl
      have hb1 : (nj != (tn : Int)) = true := by show (!(nj == (tn : Int))) = true; rw [beq_eq_false_iff_ne.2 hn]; rfl
      clear Hrt hn Hbs
      subst hr
      have r_x7 := cell_regrown x7
      have r_e1 := cell_regrown e1
      have r_y8 := cell_regrown y8
      go_wp2_with fail
      refine wp_region_qb (by kernel_rfl) (by kernel_rfl) ?_
      repeat (go_big_quiet_step (first | fail))
      refine wpQuiet_nil ?_
      intro w4 B4
      have HB4 := Lib.hid (bot HB13.out B4)
      go_wp2_with fail
      go_meet
      exact ⟨rfl, HB4⟩
    have hb1 : (nj != (tn : Int)) = false := by show (!(nj == (tn : Int))) = false; rw [hn, beq_self_eq_true]; rfl
    have Hb := Lib.hid (Hbs.out hn)
    rw [decide_eq_true hn, Bool.true_and] at Hrt
    clear hn Hbs
    cases fr with
    | true =>
      have hr : rt = true := Hrt.out
      clear Hrt
      subst hr
      have r_x7 := cell_regrown x7
      have r_e1 := cell_regrown e1
      have r_y8 := cell_regrown y8
      go_wp2_with fail
      refine wp_region_qb (by kernel_rfl) (by kernel_rfl) ?_
      repeat (go_big_quiet_step (first | fail))
      refine wpQuiet_nil ?_
      intro w4 B4
      have HB4 := Lib.hid (bot HB13.out B4)
      go_wp2_with fail
      go_meet
      exact ⟨rfl, HB4⟩
    | false =>
      have hr : rt = sees := Hrt.out
      clear Hrt
      subst hr
      cases rt with
      | true =>
        have r_x7 := cell_regrown x7
        have r_e1 := cell_regrown e1
        have r_y8 := cell_regrown y8
        go_wp2_with fail
        refine wp_region_qb (by kernel_rfl) (by kernel_rfl) ?_
        repeat (go_big_quiet_step (first | (with_reducible exact Hb.out _ _)))
        refine wpQuiet_nil ?_
        intro w4 B4
        have HB4 := Lib.hid (bot HB13.out B4)
        go_wp2_with fail
        go_meet
        exact ⟨rfl, HB4⟩
      | false =>
        have r_x7 := cell_regrown x7
        have r_e1 := cell_regrown e1
        have r_y8 := cell_regrown y8
        go_wp2_with fail
        refine wp_region_qb (by kernel_rfl) (by kernel_rfl) ?_
        repeat (go_big_quiet_step (first | (with_reducible exact Hb.out _ _)))
        refine wpQuiet_nil ?_
        intro w4 B4
        have HB4 := Lib.hid (bot HB13.out B4)
        go_wp2_with fail
        go_meet
        exact ⟨rfl, HB4⟩
  case rest =>
  obtain ⟨rfl, HB4⟩ := hcut
  have HBc := Lib.hid (bot HB1.out HB4.out)
  obtain ⟨e0, e1⟩ := He.out wc HB4.out
  clear x0 x4 x7
  have HWc := Lib.hid (HW.out.keep HC.out HBc.out)
  cases hrt : rt with
  | true =>
    have hL : 0 ≤ L := by
      have := Hrt.out
      rw [hrt] at this
      by_cases h : 0 ≤ L
      · exact h
      · rw [decide_eq_false h] at this; cases this
    obtain ⟨j, hj⟩ : ∃ j : Nat, L = (j : Int) := ⟨L.toNat, by omega⟩
    subst hj
    have hR := HE1.out hrt
    rw [Int.toNat_natCast] at hR
    have HR := Lib.hid hR
    have hjN : j < N := Hlt.out hL
    have Hs := Lib.hid (HSe.out wc st.1 j HWc.out (by omega))
    clear hR hL Hlt HDn HBs Hrt
    go_wp2_with fail
    refine Hs.out.mono ?_
    rintro e w5 ⟨rfl, hP5, hF5⟩
    have HP5 := Lib.hid hP5
    have HF5 := Lib.hid ((PlFr.below hHP HBc.out).trans hF5)
    clear hP5 hF5 Hs
    go_wp2_with fail
    go_ret
    exact .inr ⟨_, HR.out, rfl, HP5.out, HF5.out⟩
  | false =>
  obtain ⟨i, f, hmi, hfi, hfl⟩ := HHm.out
  have Hpu : Hid (∀ W, PlWd C W st → Calls Tryz.prog 81 #[.pointer (some ⟨C.P, 0, none⟩), .int .i64 (i : Int), .int .i64 (tn : Int)] W fun e w' =>
      (∃ c, R = .error c ∧ (c = 40 ∨ c = 41) ∧ e = .returned (.tuple #[.int .i64 0, .int .i64 c]) ∧ Hid (PlWd C w' st ∧ PlFr C W w')) ∨ (∃ T, R = .ok (T, st.2 ++ [⟨at_, s, N⟩]) ∧ e = .returned (.tuple #[.int .i64 (N : Int), .int .i64 0]) ∧ Hid (PlWd C w' (T, st.2) ∧ PlFr C W w'))) := fun W hW => by
    refine (HPu.out W i f hW hfi hfl).mono ?_
    rintro e w' (⟨c, h1, h2, h3⟩ | ⟨T, h1, h2, h3⟩)
    · exact .inl ⟨c, HE2.out i c hrt hmi h1, putP_err h1, h2, h3⟩
    · exact .inr ⟨T, HE3.out i T hrt hmi h1, h2, h3⟩
  cases hfr2 : fr with
  | true =>
    have hsp : hm = spotI st.1 st.2 C.q.old d.path s x := Hh2.out (Hkf.out.2.2.1 hfr2)
    rw [hmi] at hsp
    rw [← hsp] at HSp
    clear hsp hmi hfr hfi Hkf Hh2 Hh3
    subst hfr2
    go_wp2_with fail
    refine (HSp.out wc HBc.out).mono ?_
    rintro e w5 ⟨rfl, hb5⟩
    have HW5 := Lib.hid (HWc.out.keep HC.out hb5)
    have HB5 := Lib.hid (bot HB4.out hb5)
    have HB45 := hb5
    clear hb5 e0 e1
    obtain ⟨e0, e1⟩ := He.out w5 HB5.out
    go_wp2_with fail
    have hNE : NotPl C w5 EB := HNE.out w5 (bot HBc.out HB45)
    refine (Hpu.out w5 HW5.out).mono ?_
    rintro e w6 (⟨c, hR, hc, rfl, HW6⟩ | ⟨T, hR, rfl, HW6⟩)
    · have HF6 := Lib.hid ((PlFr.below hHP (bot HB1.out HB5.out)).trans HW6.out.2)
      rcases hc with rfl | rfl
      · go_wp2_with fail
        go_ret
        exact .inl ⟨_, hR, rfl, by decide, HW6.out.1, HF6.out⟩
      · go_wp2_with fail
        go_ret
        exact .inl ⟨_, hR, rfl, by decide, HW6.out.1, HF6.out⟩
    · have HR := Lib.hid hR
      have Hs := Lib.hid (HSe.out w6 T N HW6.out.1 (by omega))
      have HF6 := Lib.hid ((PlFr.below hHP (bot HB1.out HB5.out)).trans HW6.out.2)
      have hz5 : EB < w5.heap.size := Nat.lt_of_lt_of_le hz1 HB5.out.size
      have e2 : w6.cell? ⟨EB, 0, none⟩ = some (.string s) := (cell_same (HW6.out.2.2 EB hz5 hNE).1 0 none).trans e0
      clear hR Hpu e0 e1 hNE
      go_wp2_with fail
      refine Hs.out.mono ?_
      rintro e w7 ⟨rfl, hP7, hF7⟩
      have HP7 := Lib.hid hP7
      have HF7 := Lib.hid (HF6.out.trans hF7)
      clear hP7 hF7 Hs
      go_wp2_with fail
      go_ret
      exact .inr ⟨_, HR.out, rfl, HP7.out, HF7.out⟩
  | false =>
    have hsp : hm = (at_ : Int) := Hh3.out (Hkf.out.2.2.2 hfr2)
    obtain rfl : i = at_ := by omega
    clear hsp hmi hfr hfi Hkf Hh2 Hh3 HSp
    subst hfr2
    obtain ⟨w5, hw5⟩ : ∃ w5, w5 = wc := ⟨_, rfl⟩
    have HB45 : Below wc.heap.size wc w5 := by rw [hw5]; exact Below.refl _ _
    have HW5 : Hid (PlWd C w5 st) := by unfold Hid; rw [hw5]; exact HWc.out
    have HB5 : Hid (Below w1.heap.size w1 w5) := by unfold Hid; rw [hw5]; exact HB4.out
    go_wp2_with fail
    subst hw5
    have hNE : NotPl C w5 EB := HNE.out w5 (bot HBc.out HB45)
    refine (Hpu.out w5 HW5.out).mono ?_
    rintro e w6 (⟨c, hR, hc, rfl, HW6⟩ | ⟨T, hR, rfl, HW6⟩)
    · have HF6 := Lib.hid ((PlFr.below hHP (bot HB1.out HB5.out)).trans HW6.out.2)
      rcases hc with rfl | rfl
      · go_wp2_with fail
        go_ret
        exact .inl ⟨_, hR, rfl, by decide, HW6.out.1, HF6.out⟩
      · go_wp2_with fail
        go_ret
        exact .inl ⟨_, hR, rfl, by decide, HW6.out.1, HF6.out⟩
    · have HR := Lib.hid hR
      have Hs := Lib.hid (HSe.out w6 T N HW6.out.1 (by omega))
      have HF6 := Lib.hid ((PlFr.below hHP (bot HB1.out HB5.out)).trans HW6.out.2)
      have hz5 : EB < w5.heap.size := Nat.lt_of_lt_of_le hz1 HB5.out.size
      have e2 : w6.cell? ⟨EB, 0, none⟩ = some (.string s) := (cell_same (HW6.out.2.2 EB hz5 hNE).1 0 none).trans e0
      clear hR Hpu e0 e1 hNE
      go_wp2_with fail
      refine Hs.out.mono ?_
      rintro e w7 ⟨rfl, hP7, hF7⟩
      have HP7 := Lib.hid hP7
      have HF7 := Lib.hid (HF6.out.trans hF7)
      clear hP7 hF7 Hs
      go_wp2_with fail
      go_ret
      exact .inr ⟨_, HR.out, rfl, HP7.out, HF7.out⟩
end Go.Proofs.YtminjjdnmpaaoaaGreatDoor
set_option autoImplicit false
set_option relaxedAutoImplicit false
set_option linter.unusedVariables false
set_option linter.unusedSimpArgs false
namespace Go.Proofs.YtminjjdnmpaaoaaGreatDoor
open Go.Rows Go.RowKit Go.Shelf Go.Sort

theorem any_dropP {α : Type} (q : α → Bool) {xs : List α} {k : Nat} {x : α} (h : xs[k]? = some x) : (xs.drop k).any q = (q x || (xs.drop (k + 1)).any q) := by
  obtain ⟨hk, e⟩ := List.getElem?_eq_some_iff.1 h
  rw [List.drop_eq_getElem_cons hk, e, List.any_cons]

set_option maxHeartbeats 1600000 in
set_option maxRecDepth 100000 in
theorem indexPin_any (g : FuncId) (lb : Array Value) (hE : Enters Tryz.prog g) (q : Pin → Bool) (A : Option Addr) (n c : Nat) (xs : List Pin) (w : World) (S : Nat → Prop) (hx : SlV rPin w S xs (.slice A n c))
    (hq : ∀ W (x : Pin), Below w.heap.size w W → Calls Tryz.prog g (#[.agg #[.string x.name, .int .i64 x.ver.major, .int .i64 x.ver.minor, .int .i64 x.ver.patch]] ++ lb) W fun e w' => e = .returned (.bool (q x)) ∧ Below W.heap.size W w') :
    Calls Tryz.prog 78 #[.slice A n c, .func (.func g) #[] lb] w fun e w' => ∃ r : Int, e = .returned (.int .i64 r) ∧ Hid (decide (0 ≤ r) = xs.any q) ∧ Below w.heap.size w w' := by
  have hnx := hx.n_eq
  have hcx := hx.cap_le
  unfold maxLen at hcx
  have hn63 : n ≤ 9223372036854775807 := by omega
  have hx' := Lib.hid hx
  have Hend : Hid (xs.any q = (xs.drop 0).any q) := rfl
  have Hq := Lib.hid hq; clear hq
  have Hnx := Lib.hid hnx; clear hnx
  clear hcx hx
  generalize xs.any q = R at *
  go_enter Tryz.func78, Tryz.ntmps78
  go_wp2_with fail
  go_loopw [8] (fun i wr => ∃ k : Nat, k ≤ n ∧ i = .int .i64 k ∧ Hid (R = (xs.drop k).any q) ∧ Below w.heap.size w wr) (fun i _ => n - (intOf i).toNat)
  case atStart => exact ⟨0, Nat.zero_le _, rfl, Hend, Below.refl _ _⟩
  case round =>
    obtain ⟨k, hk, rfl, heq, hbel⟩ := hrel
    have hk0 : (0 : Int) ≤ (k : Int) := by omega
    by_cases hlt : k < n
    case neg =>
      have He : Hid (R = false) := by unfold Hid; rw [heq.out, List.drop_eq_nil_of_le (by have := Hnx.out; omega)]; rfl
      have hI : ¬ (k : Int) < (n : Int) := by omega
      clear heq
      go_wp2_with fail
      go_ret
      exact ⟨_, rfl, by unfold Hid; rw [He.out]; rfl, hbel⟩
    have hkn : (k : Int) < (n : Int) := by omega
    obtain ⟨x, hx⟩ : ∃ x, xs[k]? = some x := ⟨_, List.getElem?_eq_getElem (by have := Hnx.out; omega)⟩
    obtain ⟨b, o, cs, rfl, _, hb1, hh, hcell⟩ := (hx'.out.belowSize hbel).elem hx
    obtain ⟨rfl, _⟩ := hh
    have Hcall := Lib.hid (Hq.out wr x hbel)
    have Hat := Lib.hid (any_dropP q hx)
    have c0 := hcell 0 _ rfl
    have c1 := hcell 1 _ rfl
    have c2 := hcell 2 _ rfl
    have c3 := hcell 3 _ rfl
    simp only [rPin, Nat.add_zero] at c0 c1 c2 c3
    clear hcell hx
    have hent := fun args W => hE args W
    generalize q x = v at *
    generalize x.name = y0 at *
    generalize x.ver.major = y1 at *
    generalize x.ver.minor = y2 at *
    generalize x.ver.patch = y3 at *
    cases v with
    | false =>
      have He : Hid (R = (xs.drop (k + 1)).any q) := by unfold Hid; rw [heq.out, Hat.out]; rfl
      clear Hat heq
      go_wp2_with fail
      refine (Hcall.out).mono ?_
      rintro e w1 ⟨rfl, B1⟩
      go_wp2_with fail
      go_roundw
      case rel => exact ⟨k + 1, by omega, by go_num, He, bot hbel B1⟩
      case measure => simp [intOf]; omega
    | true =>
      have He : Hid (R = true) := by unfold Hid; rw [heq.out, Hat.out]; rfl
      clear Hat heq
      go_wp2_with fail
      refine (Hcall.out).mono ?_
      rintro e w1 ⟨rfl, B1⟩
      go_wp2_with fail
      go_ret
      exact ⟨_, rfl, by unfold Hid; rw [He.out]; exact decide_eq_true hk0, bot hbel B1⟩

set_option maxHeartbeats 800000 in
theorem containsPin_any (g : FuncId) (lb : Array Value) (hE : Enters Tryz.prog g) (q : Pin → Bool) (A : Option Addr) (n c : Nat) (xs : List Pin) (w : World) (S : Nat → Prop) (hx : SlV rPin w S xs (.slice A n c))
    (hq : ∀ W (x : Pin), Below w.heap.size w W → Calls Tryz.prog g (#[.agg #[.string x.name, .int .i64 x.ver.major, .int .i64 x.ver.minor, .int .i64 x.ver.patch]] ++ lb) W fun e w' => e = .returned (.bool (q x)) ∧ Below W.heap.size W w') :
    Calls Tryz.prog 47 #[.slice A n c, .func (.func g) #[] lb] w fun e w' => e = .returned (.bool (xs.any q)) ∧ Below w.heap.size w w' := by
  have Hc := Lib.hid (indexPin_any g lb hE q A n c xs w S hx hq)
  clear hx hq
  generalize xs.any q = R at *
  go_enter Tryz.func47, Tryz.ntmps47
  go_wp2_with fail
  refine (Hc.out).mono ?_
  rintro e w1 ⟨r, rfl, hr, B1⟩
  go_wp2_with fail
  go_ret
  exact ⟨ret_bool hr.out, B1⟩

set_option maxHeartbeats 800000 in
theorem dir1_any (x : Pin) (EB : Nat) (s : ByteArray) (w : World) (he : w.cell? ⟨EB, 0, none⟩ = some (.string s)) :
    Calls Tryz.prog 48 #[.agg #[.string x.name, .int .i64 x.ver.major, .int .i64 x.ver.minor, .int .i64 x.ver.patch], .pointer (some ⟨EB, 0, none⟩)] w fun e w' => e = .returned (.bool (decide (x.name = s))) ∧ Below w.heap.size w w' := by
  have HR : Hid (decide (x.name = s) = (x.name.toList == s.toList)) := by
    unfold Hid
    by_cases h : x.name = s
    · rw [decide_eq_true h, beq_true h]
    · rw [decide_eq_false h, beq_false h]
  generalize decide (x.name = s) = R at *
  generalize x.name = y0 at *
  have e2 := fun o => (cell_same (Below.heap_alloc w o _ (cell_lt he)) 0 none).trans he
  have HB := fun o => Lib.hid (bal (Below.refl w.heap.size w) o)
  go_enter Tryz.func48, Tryz.ntmps48
  go_wp2_with fail
  go_ret
  exact ⟨ret_bool HR.out.symm, (HB _).out⟩
theorem enters_dir1 : Enters Tryz.prog 48 := enters_of Tryz.func48 (by kernel_rfl) rfl
end Go.Proofs.YtminjjdnmpaaoaaGreatDoor
