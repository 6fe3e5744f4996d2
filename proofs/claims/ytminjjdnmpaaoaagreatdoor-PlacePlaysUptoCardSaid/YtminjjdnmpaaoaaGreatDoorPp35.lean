/-
  The document's placer: a directory more: walked.
-/
import Derived.Test.YtminjjdnmpaaoaaGreatDoorPp34
import Derived.Test.YtminjjdnmpaaoaaGreatDoorPp15
set_option autoImplicit false
set_option relaxedAutoImplicit false
set_option linter.unusedVariables false
set_option linter.unusedSimpArgs false
namespace Go.Proofs.YtminjjdnmpaaoaaGreatDoor
open Go.Rows Go.RowKit Go.Shelf Go.Sort

set_option maxHeartbeats 6400000 in
set_option maxRecDepth 100000 in
theorem putD_any (C : DlCtx) (hC : C.Ok) (w : World) (st : PlSt) (hw : DlWd C w st) (home nd : Nat) {d : Dir} (hd : st.1[home]? = some d) {n : Node} (hn : C.q.g[nd]? = some n) {x : Pack} (hx : C.q.ps[nd]? = some x) (hnx : x.name = n.name) (hl : st.1.length ≤ 257) (hpl : d.path.length ≤ 1024) (hnd : nd ≤ 1048576) :
    Calls Tryz.prog 60 #[.pointer (some ⟨C.P, 0, none⟩), .int .i64 (home : Int), .int .i64 (nd : Int)] w fun e w' =>
      (∃ c, putP C.q st.1 home nd = .error c ∧ e = .returned (.tuple #[.int .i64 0, .int .i64 c]) ∧ DlWd C w' st ∧ DlFr C w w') ∨ (∃ T, putP C.q st.1 home nd = .ok T ∧ e = .returned (.tuple #[.int .i64 (st.1.length : Int), .int .i64 0]) ∧ DlWd C w' (T, st.2) ∧ DlFr C w w') := by
  have hbase := hw.base
  have HW := Lib.hid hw
  obtain ⟨A, c, A', c', S, hpp⟩ := hw.parts
  have hr := hpp.rd
  have HP0 := Lib.hid hpp
  have HC := Lib.hid hC
  have hHP := hr.hP
  have x0 := hr.c0
  have ha := (List.getElem?_eq_some_iff.1 hd).1
  obtain ⟨gb, go, xA, xc, gA, gc, hgA, hgb, hgn, n0, _, _, _, _, _, _, _, hnsz⟩ := hr.node hC hbase hn
  obtain ⟨pb, po, dA, dc, eA, ec, fA, fc, hpA, hpb, hndn, k0, k1, k2, k3, k4, k5, k6, hpv, i1, i2, i3⟩ := hr.pack hC hbase hx
  have hpcap := slv_len hC.p
  have hgcap := slv_len hC.g
  rw [hgA] at x0
  have hxn : packAt C.q nd = x := by unfold packAt; rw [List.getD_eq_getElem?_getD, hx]; rfl
  have hdp := pathAt_of hd
  have hpw : pb < w.heap.size := Nat.lt_of_lt_of_le hpb hbase.size
  have HPt : Hid (putP C.q st.1 home nd = if C.q.path < ((textB (d.path ++ [n.name])).size : Int) then .error 40 else if C.q.dirs ≤ (st.1.length : Int) - 1 then .error 41 else .ok (st.1 ++ [⟨d.path ++ [n.name], x, (nd : Int)⟩])) := by
    unfold Hid putP; rw [hxn, hdp, hnx]
  generalize putP C.q st.1 home nd = R at *
  have HIn : Hid (Calls Tryz.prog 102 #[.pointer (some ⟨C.P, 0, none⟩), .int .i64 (home : Int), .string n.name] w fun e w' => ∃ (A : Option Addr) (c : Nat), e = .returned (.slice A (d.path.length + 1) c) ∧ SlV rStr w' (fun b => w.heap.size ≤ b) (d.path ++ [n.name]) (.slice A (d.path.length + 1) c) ∧ Below w.heap.size w w') := by
    have h := insideD_any C w st hw home ha n.name hnsz (by rw [hdp]; omega)
    rw [hdp] at h
    exact h
  have Hrow : Hid (∀ W, Below w.heap.size w W → W.cell? ⟨C.P, 4, none⟩ = some (.int .i64 C.q.dirs) ∧ W.cell? ⟨C.P, 5, none⟩ = some (.int .i64 C.q.path) ∧ W.cell? ⟨C.P, 8, none⟩ = some (.slice A st.1.length c) ∧ W.cell? ⟨C.P, 1, none⟩ = some (.slice (some ⟨pb, po, none⟩) C.pn C.pc)) := fun W hW => ⟨below_cell hW hr.c4 hHP, below_cell hW hr.c5 hHP, below_cell hW hr.c8 hHP, by rw [← hpA]; exact below_cell hW hr.c1 hHP⟩
  have Hpc : Hid (∀ W, Below w.heap.size w W → W.cell? ⟨pb, po + nd * 7, none⟩ = some (.string x.name) ∧ W.cell? ⟨pb, po + nd * 7 + 1, none⟩ = some (.int .i64 x.ver.major) ∧ W.cell? ⟨pb, po + nd * 7 + 2, none⟩ = some (.int .i64 x.ver.minor) ∧ W.cell? ⟨pb, po + nd * 7 + 3, none⟩ = some (.int .i64 x.ver.patch) ∧ W.cell? ⟨pb, po + nd * 7 + 4, none⟩ = some (.slice dA x.deps.length dc) ∧ W.cell? ⟨pb, po + nd * 7 + 5, none⟩ = some (.slice eA x.peers.length ec) ∧ W.cell? ⟨pb, po + nd * 7 + 6, none⟩ = some (.slice fA x.opts.length fc)) := fun W hW =>
    ⟨below_cell hW k0 hpw, below_cell hW k1 hpw, below_cell hW k2 hpw, below_cell hW k3 hpw, below_cell hW k4 hpw, below_cell hW k5 hpw, below_cell hW k6 hpw⟩
  have Hpv : Hid (∀ W, Below w.heap.size w W → x.name.size ≤ maxLen ∧ SlV rDep W (fun b => b < C.w0.heap.size) x.deps (.slice dA x.deps.length dc) ∧ SlV rDep W (fun b => b < C.w0.heap.size) x.peers (.slice eA x.peers.length ec) ∧ SlV rDep W (fun b => b < C.w0.heap.size) x.opts (.slice fA x.opts.length fc)) := fun W hW => by
    obtain ⟨A1, n1, c1, A2, n2, c2, A3, n3, c3, h1, h2, h3, h4, h5⟩ := hpv.keep hW
    cases h1
    exact ⟨h2, h3, h4, h5⟩
  have HI : Hid (I64 x.ver.major ∧ I64 x.ver.minor ∧ I64 x.ver.patch) := ⟨i1, i2, i3⟩
  clear hr hpp hw hC hbase hx hn hgA hpA hpv hxn hdp hd i1 i2 i3 k0 k1 k2 k3 k4 k5 k6 hnx hnsz
  obtain ⟨lp, hlp⟩ : ∃ m, m = d.path.length := ⟨_, rfl⟩
  obtain ⟨N, hN⟩ : ∃ N, N = st.1.length := ⟨_, rfl⟩
  rw [← hlp] at hpl HIn
  rw [← hN] at ha hl Hrow HPt ⊢
  have Hlp := Lib.hid hlp
  have HN := Lib.hid hN
  clear hlp hN
  have hj0 : (0 : Int) ≤ (nd : Int) := by omega
  have hjn : (nd : Int) < (C.pn : Int) := by omega
  have hjg : (nd : Int) < (C.gn : Int) := by omega
  have hwN : IntKind.i64.wrap ((N : Int) - 1) = (N : Int) - 1 := IntWalk.i64_in _ ⟨by omega, by omega⟩
  have hlen2 : (d.path ++ [n.name]).length = lp + 1 := by rw [List.length_append, ← Hlp.out]; rfl
  generalize n.name = s at *
  generalize d.path ++ [s] = np at *
  obtain ⟨n4, hn4⟩ : ∃ m, m = x.deps.length := ⟨_, rfl⟩
  obtain ⟨n5, hn5⟩ : ∃ m, m = x.peers.length := ⟨_, rfl⟩
  obtain ⟨n6, hn6⟩ : ∃ m, m = x.opts.length := ⟨_, rfl⟩
  rw [← hn4, ← hn5, ← hn6] at Hpc Hpv
  clear hn4 hn5 hn6
  go_enter Tryz.func60, Tryz.ntmps60
  go_wp2_with fail
  refine HIn.out.mono ?_
  rintro e w1 ⟨gP, cap, rfl, hsl, hb1⟩
  have Hsl := Lib.hid hsl
  have HBw := Lib.hid hb1
  clear hsl hb1 x0 n0 HIn
  have HTx : Hid (∀ W, Below w1.heap.size w1 W → Calls Tryz.prog 61 #[.slice gP (lp + 1) cap] W fun e w' => e = .returned (.string (textB np)) ∧ Below W.heap.size W w') := fun W hW => (refText_any _ _ _ np W (fun b => w.heap.size ≤ b) (by rw [hlen2]; omega) (Hsl.out.belowSize hW)).mono fun e w' ⟨h1, h2⟩ => ⟨h1, by rw [← h2]; exact Below.refl _ _⟩
  obtain ⟨v4, v5, v8, v1⟩ := Hrow.out w1 HBw.out
  have HTq := Lib.hid (qcall (w := w1) HTx.out)
  generalize textB np = tx at *
  go_upto_region 2 with (fail)
  by_cases hc1 : C.q.path < (tx.size : Int)
  · have He : Hid (R = .error 40) := by unfold Hid; rw [HPt.out, if_pos hc1]
    have hc1d : decide (C.q.path < (tx.size : Int)) = true := decide_eq_true hc1
    clear HPt HTx
    have r_v5 := cell_regrown v5
    go_wp2_with fail
    refine wp_region_qb (by kernel_rfl) (by kernel_rfl) ?_
    repeat (go_big_quiet_step (first | (with_reducible exact HTq.out _ _)))
    refine wpQuiet_nil ?_
    intro w5 B5
    have HB5 := Lib.hid (bot HBw.out B5)
    go_wp2_with fail
    go_ret2
    exact .inl ⟨_, He.out, rfl, (HP0.out.keep HB5.out).all, DlFr.below hHP HB5.out⟩
  have hc1d : decide (C.q.path < (tx.size : Int)) = false := decide_eq_false hc1
  have HPt2 : Hid (R = if C.q.dirs ≤ (N : Int) - 1 then .error 41 else .ok (st.1 ++ [⟨np, x, (nd : Int)⟩])) := by unfold Hid; rw [HPt.out, if_neg hc1]
  clear HPt HTx
  have r_v5 := cell_regrown v5
  go_wp2_with fail
  refine wp_region_qb (by kernel_rfl) (by kernel_rfl) ?_
  repeat (go_big_quiet_step (first | (with_reducible exact HTq.out _ _)))
  refine wpQuiet_nil ?_
  intro w5 B5
  have HB5 := Lib.hid (bot HBw.out B5)
  have HB45 := Lib.hid B5
  clear r_v5 v4 v5 v8 v1 B5 HTq
  obtain ⟨v4, v5, v8, v1⟩ := Hrow.out w5 HB5.out
  by_cases hc2 : C.q.dirs ≤ (N : Int) - 1
  · have He : Hid (R = .error 41) := by unfold Hid; rw [HPt2.out, if_pos hc2]
    have hc2d : decide (C.q.dirs ≤ (N : Int) - 1) = true := decide_eq_true hc2
    clear HPt2
    go_upto_region 4 with (fail)
    have r_v4 := cell_regrown v4
    have r_v8 := cell_regrown v8
    go_wp2_with fail
    refine wp_region_qb (by kernel_rfl) (by kernel_rfl) ?_
    repeat (go_big_quiet_step (first | fail))
    refine wpQuiet_nil ?_
    intro w6 B6
    have HB6 := Lib.hid (bot HB5.out B6)
    go_wp2_with fail
    go_ret2
    exact .inl ⟨_, He.out, rfl, (HP0.out.keep HB6.out).all, DlFr.below hHP HB6.out⟩
  have hc2d : decide (C.q.dirs ≤ (N : Int) - 1) = false := decide_eq_false hc2
  have He : Hid (R = .ok (st.1 ++ [⟨np, x, (nd : Int)⟩])) := by unfold Hid; rw [HPt2.out, if_neg hc2]
  clear HPt2
  go_upto_region 4 with (fail)
  have r_v4 := cell_regrown v4
  have r_v8 := cell_regrown v8
  go_wp2_with fail
  refine wp_region_qb (by kernel_rfl) (by kernel_rfl) ?_
  repeat (go_big_quiet_step (first | fail))
  refine wpQuiet_nil ?_
  intro w6 B6
  have HB6 := Lib.hid (bot HB5.out B6)
  have HB46 := Lib.hid (bot HB45.out B6)
  clear r_v4 r_v8 v4 v5 v8 v1 B6 HB5 HB45 hc1d hc2d
  obtain ⟨v4, v5, v8, v1⟩ := Hrow.out w6 HB6.out
  obtain ⟨q0, q1, q2, q3, q4, q5, q6⟩ := Hpc.out w6 HB6.out
  have Hsl6 := Lib.hid (Hsl.out.belowSize HB46.out)
  have hzP : C.P < w6.heap.size := Nat.lt_of_lt_of_le hHP HB6.out.size
  have hzp : pb < w6.heap.size := Nat.lt_of_lt_of_le hpw HB6.out.size
  clear v4 v5 Hsl HB46
  go_upto_region 6 with (fail)
  have HOldS : Hid (∀ b, b < C.w0.heap.size → S b) := HP0.out.old
  have HP1 : Hid (∀ (W : World) (ob : Obj), Below w6.heap.size w6 W → Own rDir (W.alloc ob) C.w0.heap.size 54 (.slice A st.1.length c) st.1 (fun b => S b ∨ (w.heap.size ≤ b ∧ b < (W.alloc ob).heap.size))) := fun W ob hW => ((HP0.out.keep (bot HB6.out hW)).T.alloc ob).moreNew (B := w.heap.size) (fun k hk => (HP0.out.T.lt k hk).2)
  have HH : Hid (∀ (W : World) (ob : Obj), Below w6.heap.size w6 W →
      rDir.holds (W.alloc ob) (fun b => S b ∨ (w.heap.size ≤ b ∧ b < (W.alloc ob).heap.size)) ⟨np, x, (nd : Int)⟩ [.slice gP (lp + 1) cap, .string x.name, .int .i64 x.ver.major, .int .i64 x.ver.minor, .int .i64 x.ver.patch, .slice dA n4 dc, .slice eA n5 ec, .slice fA n6 fc, .int .i64 (nd : Int)]) := fun W ob hW => by
    obtain ⟨h0, h1, h2, h3⟩ := Hpv.out W (bot HB6.out hW)
    exact ⟨_, _, _, _, rfl, ((Hsl6.out.belowSize hW).alloc ob).more fun b hb hl => .inr ⟨hb, hl⟩, h0, HI.out.1, HI.out.2.1, HI.out.2.2, (h1.alloc ob).more fun b hb hl => .inl (HOldS.out b hb), (h2.alloc ob).more fun b hb hl => .inl (HOldS.out b hb), (h3.alloc ob).more fun b hb hl => .inl (HOldS.out b hb), (show I64 (nd : Int) by unfold I64; omega)⟩
  have HPd : Hid (∀ (W w8 : World) (ob : Obj) (g8 cap8 : Nat), Below w6.heap.size w6 W → Own rDir w8 C.w0.heap.size 54 (.slice (some ⟨g8, 0, none⟩) (st.1.length + 1) cap8) (st.1 ++ [⟨np, x, (nd : Int)⟩]) (fun b => S b ∨ (w.heap.size ≤ b ∧ b < (W.alloc ob).heap.size)) → (W.alloc ob).grownBy w8 (Value.slice A st.1.length c).ownBlock → ((Value.slice A st.1.length c).ownBlock = some g8 ∨ g8 = W.heap.size + 1) →
      w8.heap[C.P]? = some (.cells (dlRow C (.slice A st.1.length c) (.slice A' st.2.length c')) 87 (0, 0)) ∧ DlWd C (w8.setCell ⟨C.P, 8, none⟩ (.slice (some ⟨g8, 0, none⟩) (st.1.length + 1) cap8)) (st.1 ++ [⟨np, x, (nd : Int)⟩], st.2) ∧ DlFr C w (w8.setCell ⟨C.P, 8, none⟩ (.slice (some ⟨g8, 0, none⟩) (st.1.length + 1) cap8))) := fun W w8 ob g8 cap8 hW hown hgrow hat => by
    have hat2 : (Value.slice A st.1.length c).ownBlock = some g8 ∨ (W.alloc ob).heap.size ≤ g8 := by rcases hat with h | h; exact .inl h; exact .inr (by rw [h]; simp)
    obtain ⟨h1, h2⟩ := HP0.out.push_dir HC.out (bal (bot HB6.out hW) ob) hown hgrow hat2
    exact ⟨h1, h2, (DlFr.below hHP (bal (bot HB6.out hW) ob)).trans ((HP0.out.keep (bal (bot HB6.out hW) ob)).frT hgrow hat2 h1)⟩
  have hzc : C.w0.heap.size ≤ w6.heap.size := Nat.le_trans HP0.out.base.size HB6.out.size
  clear Hsl6
  go_cut [] from 43 to 62 (fun wx => Hid (DlWd C wx (st.1 ++ [⟨np, x, (nd : Int)⟩], st.2) ∧ DlFr C w wx))
  case first =>
    rw [HN.out] at v8
    go_region_law
     (first
      | (refine step_push (by rfl) _ _ _ (by rfl) elt_dirP Tryz.underlying31 (by rfl) (HP1.out w6.drew _ (Below.refl _ _).drew) ⟨w6.heap.size, 0, none⟩ 1 [.slice gP (lp + 1) cap, .string x.name, .int .i64 x.ver.major, .int .i64 x.ver.minor, .int .i64 x.ver.patch, .slice dA n4 dc, .slice eA n5 ec, .slice fA n6 fc, .int .i64 (nd : Int)] ⟨np, x, (nd : Int)⟩ (by rfl) (HH.out w6.drew _ (Below.refl _ _).drew) (news_of w6.drew #[.slice gP (lp + 1) cap, .string x.name, .int .i64 x.ver.major, .int .i64 x.ver.minor, .int .i64 x.ver.patch, .slice dA n4 dc, .slice eA n5 ec, .slice fA n6 fc, .int .i64 (nd : Int)] _) (by rw [← HN.out]; unfold maxLen; omega) (by rw [← HN.out]; omega) (Nat.le_trans hzc (by simp)) (w6.heap.size + 1) (by simp) ?_; intro g8 cap8 w8 hown8 hgrow8 hat8 hg8; have HD := Lib.hid (HPd.out w6.drew w8 _ g8 cap8 (Below.refl _ _).drew hown8 hgrow8 hat8); have y8 : w8.cell? ⟨C.P, 8, none⟩ = some (.slice A st.1.length c) := cell_of_row _ _ 8 _ _ _ HD.out.1; have f8 : w8.frozen? ⟨C.P, 8, none⟩ = false := frozen_row HD.out.1; clear hown8 hgrow8 hat8))
    all_goals
      go_wp2_with fail
      go_meet
      exact HD.out.2
  case rest =>
  have Hcut := Lib.hid hcut.out
  obtain ⟨A9, c9, A9', c9', hr9⟩ := hcut.out.1.read
  have y8 := hr9.c8
  obtain ⟨M, hM⟩ : ∃ M, M = (st.1 ++ [(⟨np, x, (nd : Int)⟩ : Dir)]).length := ⟨_, rfl⟩
  have hMN : M = N + 1 := by rw [hM, List.length_append, ← HN.out]; rfl
  simp only at y8
  rw [← hM] at y8
  have hwM : IntKind.i64.wrap ((M : Int) - 1) = (N : Int) := by rw [IntWalk.i64_in _ ⟨by omega, by omega⟩]; omega
  clear hr9 hM v8 v1 q0 q1 q2 q3 q4 q5 q6 hcut
  go_wp2_with fail
  go_ret2
  exact .inr ⟨_, He.out, rfl, Hcut.out.1, Hcut.out.2⟩
end Go.Proofs.YtminjjdnmpaaoaaGreatDoor
