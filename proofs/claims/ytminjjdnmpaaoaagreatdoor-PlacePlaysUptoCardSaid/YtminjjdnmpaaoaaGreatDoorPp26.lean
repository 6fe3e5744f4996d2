/-
  The program's placer: a directory more: walked.
-/
import Derived.Test.YtminjjdnmpaaoaaGreatDoorPp25
import Derived.Test.YtminjjdnmpaaoaaGreatDoorPp15
import Derived.Deep.CutRange
set_option autoImplicit false
set_option relaxedAutoImplicit false
set_option linter.unusedVariables false
set_option linter.unusedSimpArgs false
namespace Go.Proofs.YtminjjdnmpaaoaaGreatDoor
open Go.Rows Go.RowKit Go.Shelf Go.Sort

theorem PlP.rd {C : PlCtx} {w : World} {st : PlSt} {A : Option Addr} {c : Nat} {A' : Option Addr} {c' : Nat} {S : Nat → Prop} (h : PlP C w st A c A' c' S) : PlRd C w st A c A' c' :=
  have h1 : w.heap[C.P]? = some (.cells #[.slice C.gA C.gn C.gc, .slice C.pA C.pn C.pc, .int .i64 C.dec, .int .i64 C.nod, .int .i64 C.q.dirs, .int .i64 C.q.path, C.ov, .slice A st.1.length c, .slice A' st.2.length c'] 78 (0, 0)) := h.row
  ⟨cell_of_row _ _ 0 _ _ _ h1, cell_of_row _ _ 1 _ _ _ h1, cell_of_row _ _ 2 _ _ _ h1, cell_of_row _ _ 3 _ _ _ h1, cell_of_row _ _ 4 _ _ _ h1, cell_of_row _ _ 5 _ _ _ h1, cell_of_row _ _ 6 _ _ _ h1, cell_of_row _ _ 7 _ _ _ h1, cell_of_row _ _ 8 _ _ _ h1, h.T.slv.more fun _ _ _ => trivial, h.S'.slv.more fun _ _ _ => trivial, h.hP⟩

theorem news_below {w w2 : World} {s : ByteArray} {t : TypeId} (h : Below (w.drew.alloc (.cells #[.string s] t)).heap.size (w.drew.alloc (.cells #[.string s] t)) w2) : ∀ (j : Nat) (u : Value), [Value.string s][j]? = some u → w2.cell? ((⟨w.drew.heap.size, 0, none⟩ : Addr).add j) = some u := fun j u hu => by
  have hh := (h.block _ (Array.getElem?_eq_some_iff.1 (heap_new w.drew (.cells #[.string s] t))).1).trans (heap_new w.drew (.cells #[.string s] t))
  cases j with
  | zero =>
    cases hu
    exact cell_of_row _ _ 0 _ _ _ hh
  | succ j => simp at hu

set_option maxHeartbeats 6400000 in
set_option maxRecDepth 100000 in
theorem put_any (C : PlCtx) (hC : C.Ok) (w : World) (st : PlSt) (hw : PlWd C w st) (home nd : Nat) {d : Dir} (hd : st.1[home]? = some d) {x : Pack} (hx : C.q.ps[nd]? = some x) (hsm : SmallP x) (hl : st.1.length ≤ 257) (hpl : d.path.length ≤ 1024) (hnd : nd ≤ 1048576) :
    Calls Tryz.prog 81 #[.pointer (some ⟨C.P, 0, none⟩), .int .i64 (home : Int), .int .i64 (nd : Int)] w fun e w' =>
      (∃ c, putP C.q st.1 home nd = .error c ∧ e = .returned (.tuple #[.int .i64 0, .int .i64 c]) ∧ PlWd C w' st ∧ PlFr C w w') ∨ (∃ T, putP C.q st.1 home nd = .ok T ∧ e = .returned (.tuple #[.int .i64 (st.1.length : Int), .int .i64 0]) ∧ PlWd C w' (T, st.2) ∧ PlFr C w w') := by
  have hbase := hw.base
  obtain ⟨A, c, A', c', S, hpp⟩ := hw.parts
  have hr := hpp.rd
  have HP0 := Lib.hid hpp
  have HC := Lib.hid hC
  have hHP := hr.hP
  have x1 := hr.c1
  have x7 := hr.c7
  have ha := (List.getElem?_eq_some_iff.1 hd).1
  obtain ⟨b, o, pA, pc, hA, hb, y0, _, hp, hpl1, hpm⟩ := hr.dir hd
  obtain ⟨pb, po, dA, dc, eA, ec, fA, fc, hpA, hpb, hndn, k0, k1, k2, k3, k4, k5, k6, hpv, i1, i2, i3⟩ := hr.pack hC hbase hx
  have hpcap := slv_len hC.p
  unfold maxLen at hpm
  rw [hpA] at x1
  have hxn : packAt C.q nd = x := by unfold packAt; rw [List.getD_eq_getElem?_getD, hx]; rfl
  have hdp := pathAt_of hd
  have hxs : x.name.size ≤ maxLen := by
    obtain ⟨_, _, _, _, _, _, _, _, _, _, h1, _⟩ := hpv
    exact h1
  have HPt : Hid (putP C.q st.1 home nd = if C.q.path < ((textB (d.path ++ [x.name])).size : Int) then .error 40 else if C.q.dirs ≤ (st.1.length : Int) - 1 then .error 41 else .ok (st.1 ++ [⟨d.path ++ [x.name], x, (nd : Int)⟩])) := by
    unfold Hid putP; rw [hxn, hdp]
  generalize putP C.q st.1 home nd = R at *
  have HPl : Hid (∀ W, Below w.heap.size w W → SlV rStr W (fun _ => True) d.path (.slice pA d.path.length pc)) := fun W hW => hp.belowSize hW
  have HPk : Hid (∀ W, Below w.heap.size w W → Calls Tryz.prog 131 #[.agg #[.string x.name, .int .i64 x.ver.major, .int .i64 x.ver.minor, .int .i64 x.ver.patch, .slice dA x.deps.length dc, .slice eA x.peers.length ec, .slice fA x.opts.length fc]] W fun e w' => ∃ v', e = .returned v' ∧ PackV w' (fun b => W.heap.size ≤ b) x v' ∧ Below W.heap.size W w') := fun W hW => ownPack_any x _ W _ hsm (hpv.keep hW)
  have HI : Hid (∀ y : Pack, y = x → I64 y.ver.major ∧ I64 y.ver.minor ∧ I64 y.ver.patch) := by rintro y rfl; exact ⟨i1, i2, i3⟩
  have Hrow : Hid (∀ W, Below w.heap.size w W → W.cell? ⟨C.P, 4, none⟩ = some (.int .i64 C.q.dirs) ∧ W.cell? ⟨C.P, 5, none⟩ = some (.int .i64 C.q.path) ∧ W.cell? ⟨C.P, 7, none⟩ = some (.slice A st.1.length c)) := fun W hW => ⟨below_cell hW hr.c4 hHP, below_cell hW hr.c5 hHP, below_cell hW hr.c7 hHP⟩
  have Hxs := Lib.hid hxs
  subst hA
  clear hr hpp hw hC hbase hx hsm hp hpA hpv hxn hdp hd hxs i1 i2 i3
  obtain ⟨lp, hlp⟩ : ∃ m, m = d.path.length := ⟨_, rfl⟩
  obtain ⟨N, hN⟩ : ∃ N, N = st.1.length := ⟨_, rfl⟩
  rw [← hlp] at y0 hpl hpl1 HPl
  rw [← hN] at x7 ha hl Hrow HPt ⊢
  have Hlp := Lib.hid hlp
  have HN := Lib.hid hN
  clear hlp hN
  have ha0 : (0 : Int) ≤ (home : Int) := by omega
  have han : (home : Int) < (N : Int) := by omega
  have hj0 : (0 : Int) ≤ (nd : Int) := by omega
  have hjn : (nd : Int) < (C.pn : Int) := by omega
  have hwN : IntKind.i64.wrap ((N : Int) - 1) = (N : Int) - 1 := IntWalk.i64_in _ ⟨by omega, by omega⟩
  generalize x.name = s at *
  generalize x.ver.major = z1 at *
  generalize x.ver.minor = z2 at *
  generalize x.ver.patch = z3 at *
  obtain ⟨n4, hn4⟩ : ∃ m, m = x.deps.length := ⟨_, rfl⟩
  obtain ⟨n5, hn5⟩ : ∃ m, m = x.peers.length := ⟨_, rfl⟩
  obtain ⟨n6, hn6⟩ : ∃ m, m = x.opts.length := ⟨_, rfl⟩
  rw [← hn4] at k4 HPk
  rw [← hn5] at k5 HPk
  rw [← hn6] at k6 HPk
  clear hn4 hn5 hn6
  go_enter Tryz.func81, Tryz.ntmps81
  go_upto_region 2 with (fail)
  obtain ⟨w1, hw1⟩ : ∃ w1, w1 = w.alloc (.cells #[.string s, .int .i64 z1, .int .i64 z2, .int .i64 z3, .slice dA n4 dc, .slice eA n5 ec, .slice fA n6 fc] 52) := ⟨_, rfl⟩
  have hq1 : w1.heap[w.heap.size]? = some (.cells #[.string s, .int .i64 z1, .int .i64 z2, .int .i64 z3, .slice dA n4 dc, .slice eA n5 ec, .slice fA n6 fc] 52 (0, 0)) := by rw [hw1]; exact heap_new _ _
  have hB1 : Below w.heap.size w w1 := by rw [hw1]; exact bal (Below.refl _ _) _
  rw [← hw1]
  have HB1 := Lib.hid hB1
  have Hq1 := Lib.hid hq1
  have hz1 : w.heap.size < w1.heap.size := (Array.getElem?_eq_some_iff.1 hq1).1
  have v7 := below_cell hB1 x7 hHP
  have v0 := below_cell hB1 y0 hb
  have q0 := cell_of_row _ _ 0 _ _ _ hq1
  clear hw1 hq1 hB1 x1 x7 y0 k0 k1 k2 k3 k4 k5 k6
  have hcell1 : C.P < w1.heap.size := Nat.lt_trans hHP hz1
  have hcell2 : b < w1.heap.size := Nat.lt_trans hb hz1
  have HCl : Hid (∀ W, Below w1.heap.size w1 W → Calls Tryz.prog 129 #[.slice pA lp pc] W fun e w' => ∃ v, e = .returned v ∧ Own rStr w' W.heap.size 9 v d.path (fun _ => False) ∧ Below W.heap.size W w') := fun W hW => cloneStr_own pA lp pc d.path W _ (by rw [← Hlp.out]; omega) (HPl.out W (bot HB1.out hW))
  obtain ⟨QB, hQB⟩ : ∃ k, k = w.heap.size := ⟨_, rfl⟩
  rw [← hQB] at q0 hz1 ⊢
  have HQB := Lib.hid hQB
  clear hQB
  go_cut [9] from 17 to 30 (fun pv wx => ∃ (g cap : Nat), pv = .slice (some ⟨g, 0, none⟩) (lp + 1) cap ∧ Hid (SlV rStr wx (fun b => w.heap.size ≤ b) (d.path ++ [s]) pv) ∧ Hid (Below w1.heap.size w1 wx))
  case first =>
    go_region_law
     (first
      | (refine step_push (by rfl) _ _ _ (by rfl) elt_string Tryz.underlying48 (by rfl) HO.out ⟨w1.drew.heap.size, 0, none⟩ 1 [.string s] s (by rfl) ⟨rfl, Hxs.out⟩ HNb.out (by rw [← Hlp.out]; unfold maxLen; omega) (by rw [← Hlp.out]; omega) Hzb.out w2.heap.size rfl ?_; intro g cap w4 hown4 hgrow hat hg4; have HBg := Lib.hid (show Below w1.heap.size w1 w4 from bgrown HBc.out hgrow HO.out Hz1.out))
      | (refine step_push (by rfl) _ _ _ (by rfl) elt_string Tryz.underlying48 (by rfl) (HO.out.alloc _) ⟨w2.heap.size, 0, none⟩ 1 [.string s] s (by rfl) ⟨rfl, Hxs.out⟩ (news_of w2 #[.string s] _) (by rw [← Hlp.out]; unfold maxLen; omega) (by rw [← Hlp.out]; omega) (Nat.le_trans Hzb.out (by simp)) (w2.heap.size + 1) (by simp) ?_; intro g cap w4 hown4 hgrow hat hg4; have HBg := Lib.hid (show Below w1.heap.size w1 w4 from bgrown (bal HBc.out _) hgrow (HO.out.alloc _) Hz1.out))
      | (go_simp; go_at_call 129; refine (HCl.out w1.drew (Below.refl _ _).drew).mono ?_; rintro e w2 ⟨v2, rfl, hown2, hb2⟩; have HBc := Lib.hid (show Below w1.heap.size w1 w2 from bot (Below.refl _ _).drew hb2); have HO := Lib.hid hown2; have Hzb := Lib.hid (show w1.drew.heap.size ≤ w2.heap.size from hb2.size); have Hz1 := Lib.hid (show w1.heap.size ≤ w1.drew.heap.size from Nat.le_refl _); have v7 := below_cell HBc.out v7 hcell1; have v0 := below_cell HBc.out v0 hcell2; have q0 := below_cell HBc.out q0 hz1; clear hown2 hb2)
      | (go_simp; go_at_call 129; refine (HCl.out (w1.drew.alloc (.cells #[.string s] 9)) (bal (Below.refl _ _).drew _)).mono ?_; rintro e w2 ⟨v2, rfl, hown2, hb2⟩; have HNb := Lib.hid (news_below hb2); have HBc := Lib.hid (show Below w1.heap.size w1 w2 from bot (bal (Below.refl _ _).drew _) hb2); have HO := Lib.hid hown2; have Hzb := Lib.hid (show (w1.drew.alloc (.cells #[.string s] 9)).heap.size ≤ w2.heap.size from hb2.size); have Hz1 := Lib.hid (show w1.heap.size ≤ (w1.drew.alloc (.cells #[.string s] 9)).heap.size by simp); have v7 := below_cell HBc.out v7 hcell1; have v0 := below_cell HBc.out v0 hcell2; have q0 := below_cell HBc.out q0 hz1; clear hown2 hb2))
    all_goals
      go_wp2_with fail
      go_meet
      rw [← Hlp.out] at hown4 ⊢
      exact ⟨_, _, rfl, hown4.slv.more fun b hb _ => by
        rcases hb with hb | hb
        · exact hb.elim
        · exact Nat.le_trans HB1.out.size (Nat.le_trans Hz1.out hb), HBg.out⟩
  case rest =>
  obtain ⟨g, cap, rfl, Hsl, HBg⟩ := hcut
  have HBw : Hid (Below w.heap.size w wc) := bot HB1.out HBg.out
  have Hq4 : Hid (wc.heap[QB]? = some (.cells #[.string s, .int .i64 z1, .int .i64 z2, .int .i64 z3, .slice dA n4 dc, .slice eA n5 ec, .slice fA n6 fc] 52 (0, 0))) := by unfold Hid; rw [HQB.out]; exact (HBg.out.block _ (by rw [← HQB.out]; exact hz1)).trans Hq1.out
  clear HBg HCl v7 v0 q0 Hq1 HB1
  have hlen2 : (d.path ++ [s]).length = lp + 1 := by rw [List.length_append, ← Hlp.out]; rfl
  generalize d.path ++ [s] = np at *
  have HTx : Hid (∀ W, Below wc.heap.size wc W → Calls Tryz.prog 19 #[.slice (some ⟨g, 0, none⟩) (lp + 1) cap] W fun e w' => e = .returned (.string (textB np)) ∧ Below W.heap.size W w') := fun W hW => treeText_any _ _ _ np W (fun b => b < W.heap.size) (fun b h => h) (by rw [hlen2]; omega) ((Hsl.out.belowSize hW).more fun b h h' => h')
  obtain ⟨v4, v5, v7⟩ := Hrow.out wc HBw.out
  have HTq := Lib.hid (qcall (w := wc) HTx.out)
  generalize textB np = tx at *
  by_cases hc1 : C.q.path < (tx.size : Int)
  · have He : Hid (R = .error 40) := by unfold Hid; rw [HPt.out, if_pos hc1]
    have hc1d : decide (C.q.path < (tx.size : Int)) = true := decide_eq_true hc1
    clear HPt HTx
    have r_v5 := cell_regrown v5
    go_wp2_with fail
    refine wp_region_qb (by kernel_rfl) (by kernel_rfl) ?_
    repeat (go_big_quiet_step (first | (with_reducible exact HTq.out _ _)))
    refine wpQuiet_nil ?_
    intro w5 B5
    have HB5 := Lib.hid (bot HBw.out B5)
    go_wp2_with fail
    go_ret2
    exact .inl ⟨_, He.out, rfl, (HP0.out.keep HB5.out).all, PlFr.below hHP HB5.out⟩
  have hc1d : decide (C.q.path < (tx.size : Int)) = false := decide_eq_false hc1
  have HPt2 : Hid (R = if C.q.dirs ≤ (N : Int) - 1 then .error 41 else .ok (st.1 ++ [⟨np, x, (nd : Int)⟩])) := by unfold Hid; rw [HPt.out, if_neg hc1]
  clear HPt HTx
  go_upto_region 3 with (fail)
  have r_v5 := cell_regrown v5
  go_wp2_with fail
  refine wp_region_qb (by kernel_rfl) (by kernel_rfl) ?_
  repeat (go_big_quiet_step (first | (with_reducible exact HTq.out _ _)))
  refine wpQuiet_nil ?_
  intro w5 B5
  have HB5 := Lib.hid (bot HBw.out B5)
  have HB45 := Lib.hid B5
  clear r_v5 v4 v5 v7 B5 HTq
  obtain ⟨v4, v5, v7⟩ := Hrow.out w5 HB5.out
  by_cases hc2 : C.q.dirs ≤ (N : Int) - 1
  · have He : Hid (R = .error 41) := by unfold Hid; rw [HPt2.out, if_pos hc2]
    have hc2d : decide (C.q.dirs ≤ (N : Int) - 1) = true := decide_eq_true hc2
    clear HPt2
    go_upto_region 5 with (fail)
    have r_v4 := cell_regrown v4
    have r_v7 := cell_regrown v7
    go_wp2_with fail
    refine wp_region_qb (by kernel_rfl) (by kernel_rfl) ?_
    repeat (go_big_quiet_step (first | fail))
    refine wpQuiet_nil ?_
    intro w6 B6
    have HB6 := Lib.hid (bot HB5.out B6)
    go_wp2_with fail
    go_ret2
    exact .inl ⟨_, He.out, rfl, (HP0.out.keep HB6.out).all, PlFr.below hHP HB6.out⟩
  have hc2d : decide (C.q.dirs ≤ (N : Int) - 1) = false := decide_eq_false hc2
  have He : Hid (R = .ok (st.1 ++ [⟨np, x, (nd : Int)⟩])) := by unfold Hid; rw [HPt2.out, if_neg hc2]
  clear HPt2
  go_upto_region 5 with (fail)
  have r_v4 := cell_regrown v4
  have r_v7 := cell_regrown v7
  go_wp2_with fail
  refine wp_region_qb (by kernel_rfl) (by kernel_rfl) ?_
  repeat (go_big_quiet_step (first | fail))
  refine wpQuiet_nil ?_
  intro w6 B6
  have HB6 := Lib.hid (bot HB5.out B6)
  have HB46 := Lib.hid (bot HB45.out B6)
  clear r_v4 r_v7 v4 v5 v7 B6 HB5 HB45 hc1d hc2d
  obtain ⟨v4, v5, v7⟩ := Hrow.out w6 HB6.out
  have hq6 := (HB46.out.block _ (Array.getElem?_eq_some_iff.1 Hq4.out).1).trans Hq4.out
  have q0 := cell_of_row _ _ 0 _ _ _ hq6
  have q1 := cell_of_row _ _ 1 _ _ _ hq6
  have q2 := cell_of_row _ _ 2 _ _ _ hq6
  have q3 := cell_of_row _ _ 3 _ _ _ hq6
  have q4 := cell_of_row _ _ 4 _ _ _ hq6
  have q5 := cell_of_row _ _ 5 _ _ _ hq6
  have q6 := cell_of_row _ _ 6 _ _ _ hq6
  have Hsl6 := Lib.hid (Hsl.out.belowSize HB46.out)
  have hzP : C.P < w6.heap.size := Nat.lt_of_lt_of_le hHP HB6.out.size
  clear hq6 v4 v5 Hq4 Hsl HB46
  go_upto_region 7 with (fail)
  have HP1 : Hid (∀ (W : World) (ob : Obj), Below w6.heap.size w6 W → Own rDir (W.alloc ob) C.w0.heap.size 54 (.slice (some ⟨b, o, none⟩) st.1.length c) st.1 (fun b => S b ∨ (w.heap.size ≤ b ∧ b < (W.alloc ob).heap.size))) := fun W ob hW => ((HP0.out.keep (bot HB6.out hW)).T.alloc ob).moreNew (B := w.heap.size) (fun k hk => (HP0.out.T.lt k hk).2)
  have HH : Hid (∀ (W : World) (ob : Obj) (B1 : Option Addr) (m1 b1 : Nat) (B2 : Option Addr) (m2 b2 : Nat) (B3 : Option Addr) (m3 b3 : Nat), Below w6.heap.size w6 W → x.name.size ≤ maxLen → SlV rDep W (fun b => w6.heap.size ≤ b) x.deps (.slice B1 m1 b1) → SlV rDep W (fun b => w6.heap.size ≤ b) x.peers (.slice B2 m2 b2) → SlV rDep W (fun b => w6.heap.size ≤ b) x.opts (.slice B3 m3 b3) →
      rDir.holds (W.alloc ob) (fun b => S b ∨ (w.heap.size ≤ b ∧ b < (W.alloc ob).heap.size)) ⟨np, x, (nd : Int)⟩ [.slice (some ⟨g, 0, none⟩) (lp + 1) cap, .string x.name, .int .i64 x.ver.major, .int .i64 x.ver.minor, .int .i64 x.ver.patch, .slice B1 m1 b1, .slice B2 m2 b2, .slice B3 m3 b3, .int .i64 (nd : Int)]) := fun W ob B1 m1 b1 B2 m2 b2 B3 m3 b3 hW hnm h1 h2 h3 => by
    have hws := HB6.out.size
    obtain ⟨i1, i2, i3⟩ := HI.out x rfl
    exact ⟨_, _, _, _, rfl, ((Hsl6.out.belowSize hW).alloc ob).more fun b hb hl => .inr ⟨hb, hl⟩, hnm, i1, i2, i3, (h1.alloc ob).more fun b hb hl => .inr ⟨Nat.le_trans hws hb, hl⟩, (h2.alloc ob).more fun b hb hl => .inr ⟨Nat.le_trans hws hb, hl⟩, (h3.alloc ob).more fun b hb hl => .inr ⟨Nat.le_trans hws hb, hl⟩, (show I64 (nd : Int) by unfold I64; omega)⟩
  have HPd : Hid (∀ (W w8 : World) (ob : Obj) (g8 cap8 : Nat), Below w6.heap.size w6 W → Own rDir w8 C.w0.heap.size 54 (.slice (some ⟨g8, 0, none⟩) (st.1.length + 1) cap8) (st.1 ++ [⟨np, x, (nd : Int)⟩]) (fun b => S b ∨ (w.heap.size ≤ b ∧ b < (W.alloc ob).heap.size)) → (W.alloc ob).grownBy w8 (Value.slice (some ⟨b, o, none⟩) st.1.length c).ownBlock → ((Value.slice (some ⟨b, o, none⟩) st.1.length c).ownBlock = some g8 ∨ g8 = W.heap.size + 1) →
      w8.heap[C.P]? = some (.cells (plRow C (.slice (some ⟨b, o, none⟩) st.1.length c) (.slice A' st.2.length c')) 78 (0, 0)) ∧ PlWd C (w8.setCell ⟨C.P, 7, none⟩ (.slice (some ⟨g8, 0, none⟩) (st.1.length + 1) cap8)) (st.1 ++ [⟨np, x, (nd : Int)⟩], st.2) ∧ PlFr C w (w8.setCell ⟨C.P, 7, none⟩ (.slice (some ⟨g8, 0, none⟩) (st.1.length + 1) cap8))) := fun W w8 ob g8 cap8 hW hown hgrow hat => by
    have hat2 : (Value.slice (some ⟨b, o, none⟩) st.1.length c).ownBlock = some g8 ∨ (W.alloc ob).heap.size ≤ g8 := by rcases hat with h | h; exact .inl h; exact .inr (by rw [h]; simp)
    obtain ⟨h1, h2⟩ := HP0.out.push_dir HC.out (bal (bot HB6.out hW) ob) hown hgrow hat2
    exact ⟨h1, h2, (PlFr.below hHP (bal (bot HB6.out hW) ob)).trans ((HP0.out.keep (bal (bot HB6.out hW) ob)).fr7 hgrow hat2 h1)⟩
  have HOw : Hid (∀ W, Below w6.heap.size w6 W → Calls Tryz.prog 131 #[.agg #[.string s, .int .i64 z1, .int .i64 z2, .int .i64 z3, .slice dA n4 dc, .slice eA n5 ec, .slice fA n6 fc]] W fun e w' => ∃ B1 m1 b1 B2 m2 b2 B3 m3 b3, e = .returned (.agg #[.string x.name, .int .i64 x.ver.major, .int .i64 x.ver.minor, .int .i64 x.ver.patch, .slice B1 m1 b1, .slice B2 m2 b2, .slice B3 m3 b3]) ∧ Hid (x.name.size ≤ maxLen ∧ SlV rDep w' (fun b => w6.heap.size ≤ b) x.deps (.slice B1 m1 b1) ∧ SlV rDep w' (fun b => w6.heap.size ≤ b) x.peers (.slice B2 m2 b2) ∧ SlV rDep w' (fun b => w6.heap.size ≤ b) x.opts (.slice B3 m3 b3)) ∧ Below W.heap.size W w') := fun W hW => by
    refine (HPk.out W (bot HB6.out hW)).mono ?_
    rintro e w' ⟨v', rfl, ⟨B1, m1, b1, B2, m2, b2, B3, m3, b3, rfl, h0, h1, h2, h3⟩, hb⟩
    exact ⟨B1, m1, b1, B2, m2, b2, B3, m3, b3, rfl, ⟨h0, h1.more fun b hb _ => Nat.le_trans hW.size hb, h2.more fun b hb _ => Nat.le_trans hW.size hb, h3.more fun b hb _ => Nat.le_trans hW.size hb⟩, hb⟩
  have hzc : C.w0.heap.size ≤ w6.heap.size := Nat.le_trans HP0.out.base.size HB6.out.size
  have hzq : QB < w6.heap.size := cell_lt q0
  have Hnd9 : Hid ((nd : Int) = (nd : Int)) := rfl
  clear HPk HPl Hsl6
  go_cut [] from 55 to 70 (fun wx => Hid (PlWd C wx (st.1 ++ [⟨np, x, (nd : Int)⟩], st.2) ∧ PlFr C w wx))
  case first =>
    go_region_law
     (first
      | (refine step_push (by rfl) _ _ _ (by rfl) elt_dirP Tryz.underlying31 (by rw [HN.out]; rfl) (HP1.out w7 _ HB7.out) ⟨w7.heap.size, 0, none⟩ 1 [.slice (some ⟨g, 0, none⟩) (lp + 1) cap, .string x.name, .int .i64 x.ver.major, .int .i64 x.ver.minor, .int .i64 x.ver.patch, .slice B1 m1 b1, .slice B2 m2 b2, .slice B3 m3 b3, .int .i64 (nd : Int)] ⟨np, x, (nd : Int)⟩ (by rfl) (HH.out w7 _ B1 m1 b1 B2 m2 b2 B3 m3 b3 HB7.out HV.out.1 HV.out.2.1 HV.out.2.2.1 HV.out.2.2.2) (news_of w7 #[.slice (some ⟨g, 0, none⟩) (lp + 1) cap, .string x.name, .int .i64 x.ver.major, .int .i64 x.ver.minor, .int .i64 x.ver.patch, .slice B1 m1 b1, .slice B2 m2 b2, .slice B3 m3 b3, .int .i64 (nd : Int)] _) (by rw [← HN.out]; unfold maxLen; omega) (by rw [← HN.out]; omega) (Nat.le_trans Hzc.out (by simp)) (w7.heap.size + 1) (by simp) ?_; intro g8 cap8 w8 hown8 hgrow8 hat8 hg8; have HD := Lib.hid (HPd.out w7 w8 _ g8 cap8 HB7.out hown8 hgrow8 hat8); have y7 : w8.cell? ⟨C.P, 7, none⟩ = some (.slice (some ⟨b, o, none⟩) st.1.length c) := cell_of_row _ _ 7 _ _ _ HD.out.1; have f7 : w8.frozen? ⟨C.P, 7, none⟩ = false := frozen_row HD.out.1; clear hown8 hgrow8 hat8)
      | (go_simp; go_at_call 131; refine (HOw.out w6.drew (Below.refl _ _).drew).mono ?_; rintro e w7 ⟨B1, m1, b1, B2, m2, b2, B3, m3, b3, rfl, HV, hb7⟩; have HB7 := Lib.hid (show Below w6.heap.size w6 w7 from bot (Below.refl _ _).drew hb7); have Hzc := Lib.hid (show C.w0.heap.size ≤ w7.heap.size from Nat.le_trans hzc HB7.out.size); have v7 := below_cell HB7.out v7 hzP; have e7 := fun ob => (cell_same (Below.heap_alloc w7 ob _ (cell_lt v7)) _ none).trans v7; clear hb7))
    all_goals
      go_wp2_with fail
      go_meet
      exact HD.out.2
  case rest =>
  have Hcut := Lib.hid hcut.out
  obtain ⟨A9, c9, A9', c9', hr9⟩ := hcut.out.1.read
  have y7 := hr9.c7
  obtain ⟨M, hM⟩ : ∃ M, M = (st.1 ++ [(⟨np, x, (nd : Int)⟩ : Dir)]).length := ⟨_, rfl⟩
  have hMN : M = N + 1 := by rw [hM, List.length_append, ← HN.out]; rfl
  simp only at y7
  rw [← hM] at y7
  have hwM : IntKind.i64.wrap ((M : Int) - 1) = (N : Int) := by rw [IntWalk.i64_in _ ⟨by omega, by omega⟩]; omega
  clear hr9 hM v7 q0 q1 q2 q3 q4 q5 q6 hcut
  go_wp2_with fail
  go_ret2
  exact .inr ⟨_, He.out, rfl, Hcut.out.1, Hcut.out.2⟩
end Go.Proofs.YtminjjdnmpaaoaaGreatDoor
