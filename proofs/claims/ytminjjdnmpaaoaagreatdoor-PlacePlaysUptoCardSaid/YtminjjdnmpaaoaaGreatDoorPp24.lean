/-
  The program's placer: where a directory is put: walked.
-/
import Derived.Test.YtminjjdnmpaaoaaGreatDoorPp23
import Derived.Deep.LoopGhost
import Derived.WalkMore
set_option autoImplicit false
set_option relaxedAutoImplicit false
set_option linter.unusedVariables false
set_option linter.unusedSimpArgs false
namespace Go.Proofs.YtminjjdnmpaaoaaGreatDoor
open Go.Rows Go.RowKit Go.Shelf Go.Sort

theorem spotGo_stop {T : List Dir} {S : List Stl} {old : Option (List Dir)} {path : List ByteArray} {s : ByteArray} {x : Pack} {k : Nat} {b l : Int} (h : 0 ≤ findI T (path.take k ++ [s])) : spotGo T S old path s x (k + 1) (b, l) = (b, l) := by
  rw [spotGo, if_pos h]
theorem spotGo_skip {T : List Dir} {S : List Stl} {old : Option (List Dir)} {path : List ByteArray} {s : ByteArray} {x : Pack} {k : Nat} {b l : Int} (h : ¬ 0 ≤ findI T (path.take k ++ [s])) {i : Nat} (hi : findI T (path.take k) = (i : Int)) (ht : turnsB T S i s = true) :
    spotGo T S old path s x (k + 1) (b, l) = spotGo T S old path s x k (b, l) := by
  rw [spotGo, if_neg h, hi, Int.toNat_natCast, if_pos ht]
theorem spotGo_take {T : List Dir} {S : List Stl} {old : Option (List Dir)} {path : List ByteArray} {s : ByteArray} {x : Pack} {k : Nat} {b l : Int} (h : ¬ 0 ≤ findI T (path.take k ++ [s])) {i : Nat} (hi : findI T (path.take k) = (i : Int)) (ht : turnsB T S i s = false) :
    spotGo T S old path s x (k + 1) (b, l) = spotGo T S old path s x k ((i : Int), if likedB old (path.take k ++ [s]) x = true then (i : Int) else l) := by
  rw [spotGo, if_neg h, hi, Int.toNat_natCast, if_neg (by rw [ht]; decide)]
theorem likedB_none (p : List ByteArray) (x : Pack) : likedB none p x = false := rfl
theorem likedB_some (o : List Dir) (p : List ByteArray) (x : Pack) : likedB (some o) p x = (decide (0 ≤ findI o p) && eqB (dirAt o (findI o p).toNat).pack x) := rfl
theorem pick_l {b l : Int} (h : 0 ≤ l) : pickI (b, l) = l := by unfold pickI; rw [if_pos h]
theorem pick_b {b l : Int} (h : ¬ 0 ≤ l) : pickI (b, l) = b := by unfold pickI; rw [if_neg h]

set_option maxHeartbeats 12800000 in
set_option maxRecDepth 100000 in
theorem spot_any (C : PlCtx) (hC : C.Ok) (w : World) (st : PlSt) (hw : PlWd C w st) {at_ : Nat} {done : List ByteArray} (hinv : PlInv C.q at_ done st) (a nd : Nat) {d : Dir} (hd : st.1[a]? = some d) {n : Node} (hn : C.q.g[nd]? = some n) {x : Pack} (hx : C.q.ps[nd]? = some x) (hlen : ∀ d ∈ st.1, d.path.length * 32 ≤ 140737488355000) :
    Calls Tryz.prog 80 #[.pointer (some ⟨C.P, 0, none⟩), .int .i64 (a : Int), .int .i64 (nd : Int)] w fun e w' => e = .returned (.int .i64 (spotI st.1 st.2 C.q.old d.path n.name x)) ∧ Below w.heap.size w w' := by
  have HW := Lib.hid hw
  have hbase := hw.base
  obtain ⟨A, c, A', c', hr⟩ := hw.read
  have ha := (List.getElem?_eq_some_iff.1 hd).1
  have hlen1 := hr.len.1
  have x0 := hr.c0
  have x1 := hr.c1
  have x6 := hr.c6
  have x7 := hr.c7
  obtain ⟨b, o, pA, pc, hA, hb, y0, _, hp, hpl, hpm⟩ := hr.dir hd
  obtain ⟨gb, go, xA, xc, eA, ec, hgA, hgb, hjn, g0, _, _, _, _, _, _, _, hnm⟩ := hr.node hC hbase hn
  subst hA
  have hgcap := slv_len hC.g
  have hpcap := slv_len hC.p
  have hHP := hr.hP
  have hpl2 := hlen d (List.mem_of_getElem? hd)
  unfold maxLen at hpm
  rw [hgA] at x0
  -- the contracts
  have HFd : Hid (∀ W (vA : Option Addr) (m vc : Nat) (p : List ByteArray), Below w.heap.size w W → SlV rStr W (fun _ => True) p (.slice vA m vc) → Calls Tryz.prog 18 #[.agg #[.slice (some ⟨b, o, none⟩) st.1.length c], .slice vA m vc] W fun e w' => e = .returned (.int .i64 (findI st.1 p)) ∧ Below W.heap.size W w') := fun W vA m vc p hW hv => find_any _ _ _ _ _ _ st.1 p W _ _ (hr.dirs.belowSize hW) hv
  have HPt : Hid (∀ W, Below w.heap.size w W → SlV rStr W (fun _ => True) d.path (.slice pA d.path.length pc)) := fun W hW => hp.belowSize hW
  have HCl : Hid (∀ W (k : Nat), Below w.heap.size w W → k ≤ d.path.length → Calls Tryz.prog 129 #[.slice pA k pc] W fun e w' => ∃ v, e = .returned v ∧ Own rStr w' W.heap.size 9 v (d.path.take k) (fun _ => False) ∧ Below W.heap.size W w') := fun W k hW hk => cloneStr_own pA k pc (d.path.take k) W _ (by rw [List.length_take]; omega) (SlV.take (hp.belowSize hW) hk)
  have HTu : Hid (∀ W (i : Nat), Below w.heap.size w W → i < st.1.length → Calls Tryz.prog 130 #[.pointer (some ⟨C.P, 0, none⟩), .int .i64 (i : Int), .string n.name] W fun e w' => e = .returned (.bool (turnsB st.1 st.2 i n.name)) ∧ Below W.heap.size W w') := fun W i hW hi => turns_any C hC W st (hw.keep hC hW) i hi n.name fun x hx => ⟨(hinv.stl x hx).1, (hinv.stl x hx).2.1⟩
  have HX : Hid (∀ W, Below w.heap.size w W → W.cell? ⟨C.P, 1, none⟩ = some (.slice C.pA C.pn C.pc) ∧ W.cell? ⟨C.P, 6, none⟩ = some C.ov ∧ W.cell? ⟨C.P, 7, none⟩ = some (.slice (some ⟨b, o, none⟩) st.1.length c)) := fun W hW => ⟨below_cell hW x1 hHP, below_cell hW x6 hHP, below_cell hW x7 hHP⟩
  have HPk : Hid (∀ W, Below w.heap.size w W → ∃ (b o : Nat) (dA : Option Addr) (dc : Nat) (eA : Option Addr) (ec : Nat) (fA : Option Addr) (fc : Nat), C.pA = some ⟨b, o, none⟩ ∧ nd < C.pn ∧ W.cell? ⟨b, o + nd * 7, none⟩ = some (.string x.name) ∧ W.cell? ⟨b, o + nd * 7 + 1, none⟩ = some (.int .i64 x.ver.major) ∧ W.cell? ⟨b, o + nd * 7 + 2, none⟩ = some (.int .i64 x.ver.minor) ∧ W.cell? ⟨b, o + nd * 7 + 3, none⟩ = some (.int .i64 x.ver.patch) ∧
      W.cell? ⟨b, o + nd * 7 + 4, none⟩ = some (.slice dA x.deps.length dc) ∧ W.cell? ⟨b, o + nd * 7 + 5, none⟩ = some (.slice eA x.peers.length ec) ∧ W.cell? ⟨b, o + nd * 7 + 6, none⟩ = some (.slice fA x.opts.length fc) ∧
      PackV W (fun b => b < C.w0.heap.size) x (.agg #[.string x.name, .int .i64 x.ver.major, .int .i64 x.ver.minor, .int .i64 x.ver.patch, .slice dA x.deps.length dc, .slice eA x.peers.length ec, .slice fA x.opts.length fc])) := fun W hW => by
    obtain ⟨b, o, dA, dc, eA, ec, fA, fc, h1, _, h3, h4, h5, h6, h7, h8, h9, h10, h11, _⟩ := (hr.keep hW).pack hC (bot hbase hW) hx
    exact ⟨b, o, dA, dc, eA, ec, fA, fc, h1, h3, h4, h5, h6, h7, h8, h9, h10, h11⟩
  have HOl : Hid (∀ W, Below w.heap.size w W → OldV W (fun b => b < C.w0.heap.size) C.ov C.q.old) := fun W hW => hC.o.keep (bot hbase hW)
  have HFi : Hid (∀ k, k ≤ d.path.length → ∃ i : Nat, i < st.1.length ∧ findI st.1 (d.path.take k) = (i : Int)) := fun k hk => by
    obtain ⟨i, e, _, h1, h2, _⟩ := hinv.find hd hk
    exact ⟨i, (List.getElem?_eq_some_iff.1 h2).1, h1⟩
  have HNs := Lib.hid hnm
  have HR : Hid (spotI st.1 st.2 C.q.old d.path n.name x = pickI (spotGo st.1 st.2 C.q.old d.path n.name x (d.path.length + 1) (-1, -1))) := rfl
  clear hr hw hC hinv hp hn hx hnm hbase hd hgA x1 x6
  obtain ⟨lp, hlp⟩ : ∃ m, m = d.path.length := ⟨_, rfl⟩
  obtain ⟨N, hN⟩ : ∃ N, N = st.1.length := ⟨_, rfl⟩
  rw [← hlp] at y0 hpl HPt HCl HFi HR hpl2
  rw [← hN] at x7 ha HFd HTu HX HFi hlen1
  have Hlp := Lib.hid hlp
  clear hN hlp hlen HW
  generalize spotI st.1 st.2 C.q.old d.path n.name x = R at *
  generalize hold : C.q.old = old at *
  clear hold
  generalize C.P = PB at *
  generalize C.gn = gn at *
  generalize C.gc = gc at *
  generalize C.pn = pn at *
  generalize C.pc = pcc at *
  generalize C.pA = ppA at *
  generalize C.ov = ov at *
  generalize C.w0.heap.size = B0 at *
  generalize n.name = s at *
  generalize d.path = path at *
  have ha0 : (0 : Int) ≤ (a : Int) := by omega
  have han : (a : Int) < (N : Int) := by omega
  have hj0 : (0 : Int) ≤ (nd : Int) := by omega
  have hjI : (nd : Int) < (gn : Int) := by omega
  have hlp63 : lp ≤ 4398046511093 := by omega
  go_enter Tryz.func80, Tryz.ntmps80
  go_wp2_with fail
  go_step3
  go_wp2_with fail
  go_step3
  go_wp2_with fail
  clear x0 x7 y0 g0
  go_loopg [8, 9, 11] (lp + 1) (fun G bv lv kv wr => ∃ bb ll : Int, bv = .int .i64 bb ∧ lv = .int .i64 ll ∧ kv = .int .i64 ((G : Int) - 1) ∧ G ≤ lp + 1 ∧ Hid (R = pickI (spotGo st.1 st.2 old path s x G (bb, ll))) ∧ Hid (Below w.heap.size w wr))
  case atStart => exact ⟨-1, -1, rfl, rfl, by congr 1 <;> omega, Nat.le_refl _, HR, Below.refl _ _⟩
  case round =>
    clear HR
    obtain ⟨bb, ll, rfl, rfl, rfl, hgk, HRq, hbel⟩ := hrel
    rcases gk with _ | q
    · have He : Hid (R = pickI (bb, ll)) := HRq
      rw [show ((0 : Nat) : Int) - 1 = -1 from rfl]
      clear HRq
      by_cases hl : 0 ≤ ll
      · rw [pick_l hl] at He
        go_wp2_with fail
        try rw [Exit.noGoto_ret]
        go_ret
        exact ⟨ret_int He.out.symm, hbel.out⟩
      · rw [pick_b hl] at He
        go_wp2_with fail
        try rw [Exit.noGoto_ret]
        go_ret
        exact ⟨ret_int He.out.symm, hbel.out⟩
    have hq : q ≤ lp := by omega
    rw [show ((q + 1 : Nat) : Int) - 1 = (q : Int) by omega]
    have hq0 : (0 : Int) ≤ (q : Int) := by omega
    have hqc : q ≤ pc := by omega
    have hw2 : IntKind.i64.wrap (q : Int) = (q : Int) := IntWalk.i64_in _ ⟨by omega, by omega⟩
    obtain ⟨i, hiN, hif⟩ := HFi.out q hq
    obtain ⟨x1, x6, x7⟩ := HX.out wr hbel.out
    have Hq := Lib.hid (qcall (w := wr) (fun W hW => HFd.out W pA q pc (path.take q) (bot hbel.out hW) (SlV.take (HPt.out W (bot hbel.out hW)) (by rw [← Hlp.out]; exact hq))))
    rw [hif] at Hq
    have Hif := Lib.hid hif
    have Hlt : Hid ((path.take q).length = q) := by unfold Hid; rw [List.length_take, ← Hlp.out]; exact Nat.min_eq_left hq
    clear hif
    have r_x7 := cell_regrown x7
    go_wp2_with fail
    refine wp_region_qb (by kernel_rfl) (by kernel_rfl) ?_
    repeat (go_big_quiet_step (first | (with_reducible exact Hq.out _ _)))
    refine wpQuiet_nil ?_
    intro w1 B1
    have HB1 := Lib.hid (bot hbel.out B1)
    clear r_x7 x1 x6 x7 Hq B1
    go_wp2_with fail
    refine (HCl.out w1 q HB1.out hq).mono ?_
    rintro e w2 ⟨v2, rfl, hown2, hb2⟩
    have HB2 := Lib.hid hb2
    have Hown2 := Lib.hid hown2
    have hw21 : w1.heap.size ≤ w2.heap.size := hb2.size
    clear hb2 hown2
    go_wp2_with (at_builtin; refine wpList_push (by rfl) _ _ _ (by rfl) elt_string Tryz.underlying48 (by rfl) (Hown2.out.alloc _) ⟨w2.heap.size, 0, none⟩ 1 [.string s] s (by rfl) ⟨rfl, HNs.out⟩ (news_of w2 #[.string s] _) (by rw [Hlt.out]; unfold maxLen; omega) (by rw [Hlt.out]; omega) (by simp; omega) (w2.heap.size + 1) (by simp) ?_)
    intro g9 cap9 w9 hown9 hgrow9 hat9 hlt9
    have HB9 := Lib.hid (bgrown (bal HB2.out _) hgrow9 (Hown2.out.alloc _) (Nat.le_refl _))
    have Hsl9 := Lib.hid (hown9.slv.more (S' := fun _ => True) fun _ _ _ => trivial)
    have HBw9 := Lib.hid (bot HB1.out HB9.out)
    clear hown9 hgrow9 hat9 Hown2 HB2 HB9
    obtain ⟨x1, x6, x7⟩ := HX.out w9 HBw9.out
    have hmin : min q path.length = q := by have := Hlt.out; rwa [List.length_take] at this
    rw [hmin] at Hsl9 ⊢
    go_wp2_with fail
    refine (HFd.out w9 _ _ _ _ HBw9.out Hsl9.out).mono ?_
    rintro e w10 ⟨rfl, hb10⟩
    have HB10 := Lib.hid (bot HBw9.out hb10)
    have Hsl10 := Lib.hid (Hsl9.out.belowSize hb10)
    clear hb10 Hsl9 x1 x6 x7
    have Hst1 := Lib.hid (fun h => spotGo_stop (S := st.2) (old := old) (x := x) (T := st.1) (path := path) (s := s) (k := q) (b := bb) (l := ll) h)
    have Hst2 := Lib.hid (fun h ht => spotGo_skip (S := st.2) (old := old) (x := x) (T := st.1) (path := path) (s := s) (k := q) (b := bb) (l := ll) h Hif.out ht)
    have Hst3 := Lib.hid (fun h ht => spotGo_take (S := st.2) (old := old) (x := x) (T := st.1) (path := path) (s := s) (k := q) (b := bb) (l := ll) h Hif.out ht)
    clear Hlt Hif
    by_cases hf : 0 ≤ findI st.1 (path.take q ++ [s])
    case pos =>
      have He : Hid (R = pickI (bb, ll)) := by unfold Hid; rw [HRq.out, Hst1.out hf]
      generalize findI st.1 (path.take q ++ [s]) = f at *
      clear Hst1 Hst2 Hst3 HRq
      by_cases hl : 0 ≤ ll
      · rw [pick_l hl] at He
        go_wp2_with fail
        try rw [Exit.noGoto_ret]
        go_ret
        exact ⟨ret_int He.out.symm, HB10.out⟩
      · rw [pick_b hl] at He
        go_wp2_with fail
        try rw [Exit.noGoto_ret]
        go_ret
        exact ⟨ret_int He.out.symm, HB10.out⟩
    have Hst2' := Lib.hid (fun ht => Hst2.out hf ht)
    have Hst3' := Lib.hid (fun ht => Hst3.out hf ht)
    clear Hst1 Hst2 Hst3
    have hfd : decide (0 ≤ findI st.1 (path.take q ++ [s])) = false := decide_eq_false hf
    generalize findI st.1 (path.take q ++ [s]) = f at *
    go_wp2_with fail
    refine (HTu.out w10 i HB10.out hiN).mono ?_
    rintro e w11 ⟨rfl, hb11⟩
    have HB11 := Lib.hid (bot HB10.out hb11)
    have Hsl11 := Lib.hid (Hsl10.out.belowSize hb11)
    clear hb11 HB10 Hsl10
    have hwm : IntKind.i64.wrap ((q : Int) - 1) = (q : Int) - 1 := IntWalk.i64_in _ ⟨by omega, by omega⟩
    cases hu : turnsB st.1 st.2 i s with
    | true =>
      have HR2 : Hid (R = pickI (spotGo st.1 st.2 old path s x q (bb, ll))) := by unfold Hid; rw [HRq.out, Hst2'.out hu]
      clear Hst2' Hst3' HRq hu
      go_wp2_with fail
      go_roundg q
      case rel => exact ⟨bb, ll, rfl, rfl, by congr 1 <;> omega, by omega, HR2, HB11⟩
      case measure => omega
    | false =>
    have HR2 : Hid (R = pickI (spotGo st.1 st.2 old path s x q ((i : Int), if likedB old (path.take q ++ [s]) x = true then (i : Int) else ll))) := by unfold Hid; rw [HRq.out, Hst3'.out hu]
    clear Hst2' Hst3' HRq hu
    obtain ⟨x1, x6, x7⟩ := HX.out w11 HB11.out
    rcases HOl.out w11 HB11.out with ⟨hon, hov⟩ | ⟨ob, oo, oA, on, oc, l, hon, hov, hobl, _, hoc, hos, _⟩
    · subst hov
      have HR3 : Hid (R = pickI (spotGo st.1 st.2 old path s x q ((i : Int), ll))) := by unfold Hid; rw [HR2.out, hon, likedB_none]; rfl
      clear HR2 hon
      go_wp2_with fail
      go_roundg q
      case rel => exact ⟨(i : Int), ll, rfl, rfl, by congr 1 <;> omega, by omega, HR3, HB11⟩
      case measure => omega
    · subst hov
      have HLk2 : Hid (likedB old (path.take q ++ [s]) x = (decide (0 ≤ findI l (path.take q ++ [s])) && eqB (dirAt l (findI l (path.take q ++ [s])).toNat).pack x)) := by unfold Hid; rw [hon, likedB_some]
      have Hos := Lib.hid hos
      have Hoc := Lib.hid hoc
      clear hon
      go_wp2_with fail
      refine (find_any oA _ on oc _ _ l _ w11 _ _ Hos.out Hsl11.out).mono ?_
      rintro e w12 ⟨rfl, hb12⟩
      have HB12 := Lib.hid (bot HB11.out hb12)
      have Hos2 := Lib.hid (Hos.out.belowSize hb12)
      have oc2 := below_cell hb12 Hoc.out hobl
      clear hb12 Hos Hsl11 x1 x6 x7 hoc hos
      obtain ⟨x1, x6, x7⟩ := HX.out w12 HB12.out
      by_cases hz : 0 ≤ findI l (path.take q ++ [s])
      case neg =>
        have HR3 : Hid (R = pickI (spotGo st.1 st.2 old path s x q ((i : Int), ll))) := by unfold Hid; rw [HR2.out, HLk2.out, decide_eq_false hz]; rfl
        generalize findI l (path.take q ++ [s]) = z at *
        have hzd : decide (0 ≤ z) = false := decide_eq_false hz
        clear HR2 HLk2
        have r_x1 := cell_regrown x1
        have r_x6 := cell_regrown x6
        have r_oc2 := cell_regrown oc2
        go_wp2_with fail
        refine wp_region_qb (by kernel_rfl) (by kernel_rfl) ?_
        repeat (go_big_quiet_step (first | fail))
        refine wpQuiet_nil ?_
        intro w13 B13
        have HB13 := Lib.hid (bot HB12.out B13)
        go_wp2_with fail
        go_roundg q
        case rel => exact ⟨(i : Int), ll, rfl, rfl, by congr 1 <;> omega, by omega, HR3, HB13⟩
        case measure => omega
      obtain ⟨j, e, hj, hje, _⟩ := find_some hz
      rw [hj] at hz ⊢
      have hjl := (List.getElem?_eq_some_iff.1 hje).1
      have honl := Hos2.out.n_eq
      have hol63 := slv_len Hos2.out
      obtain ⟨qb, qo, dA, dc, eA2, ec2, fA, fc, hqA, hqb, q1, q2, q3, q4, q5, q6, q7, hpv⟩ := old_pack Hos2.out hje
      subst hqA
      obtain ⟨kb, ko, dB, dd, eB, ee, fB, ff, hkA, hndn, k0, k1, k2, k3, k4, k5, k6, hpw⟩ := HPk.out w12 HB12.out
      rw [hkA] at x1
      have HLk3 : Hid (likedB old (path.take q ++ [s]) x = eqB e.pack x) := by unfold Hid; rw [HLk2.out, hj, decide_eq_true (by omega), Bool.true_and, Int.toNat_natCast, dirAt_of hje]
      have Hps := Lib.hid (qcall (w := w12) (fun W hW => packSame_any e.pack x _ _ W _ _ (hpv.keep hW) (hpw.keep hW)))
      have hj0 : (0 : Int) ≤ (j : Int) := by omega
      have hjon : (j : Int) < (on : Int) := by omega
      have hjd : decide ((0 : Int) ≤ (j : Int)) = true := decide_eq_true hj0
      have hndI : (nd : Int) < (pn : Int) := by omega
      clear hpv hpw HLk2 hj hje Hos2 honl hz
      generalize eqB e.pack x = v at *
      generalize e.pack.name = e0 at *
      generalize e.pack.ver.major = e1 at *
      generalize e.pack.ver.minor = e2 at *
      generalize e.pack.ver.patch = e3 at *
      generalize e.pack.deps.length = e4 at *
      generalize e.pack.peers.length = e5 at *
      generalize e.pack.opts.length = e6 at *
      generalize x.name = z0 at *
      generalize x.ver.major = z1 at *
      generalize x.ver.minor = z2 at *
      generalize x.ver.patch = z3 at *
      generalize x.deps.length = z4 at *
      generalize x.peers.length = z5 at *
      generalize x.opts.length = z6 at *
      have r_x1 := cell_regrown x1
      have r_x6 := cell_regrown x6
      have r_oc2 := cell_regrown oc2
      have r_q1 := cell_regrown q1
      have r_q2 := cell_regrown q2
      have r_q3 := cell_regrown q3
      have r_q4 := cell_regrown q4
      have r_q5 := cell_regrown q5
      have r_q6 := cell_regrown q6
      have r_q7 := cell_regrown q7
      have r_k0 := cell_regrown k0
      have r_k1 := cell_regrown k1
      have r_k2 := cell_regrown k2
      have r_k3 := cell_regrown k3
      have r_k4 := cell_regrown k4
      have r_k5 := cell_regrown k5
      have r_k6 := cell_regrown k6
      cases v with
      | false =>
        have HR3 : Hid (R = pickI (spotGo st.1 st.2 old path s x q ((i : Int), ll))) := by unfold Hid; rw [HR2.out, HLk3.out]; rfl
        clear HR2 HLk3
        go_wp2_with fail
        refine wp_region_qb (by kernel_rfl) (by kernel_rfl) ?_
        repeat (go_big_quiet_step (first | (with_reducible exact Hps.out _ _)))
        refine wpQuiet_nil ?_
        intro w13 B13
        have HB13 := Lib.hid (bot HB12.out B13)
        go_wp2_with fail
        go_roundg q
        case rel => exact ⟨(i : Int), ll, rfl, rfl, by congr 1 <;> omega, by omega, HR3, HB13⟩
        case measure => omega
      | true =>
        have HR3 : Hid (R = pickI (spotGo st.1 st.2 old path s x q ((i : Int), (i : Int)))) := by unfold Hid; rw [HR2.out, HLk3.out]; rfl
        clear HR2 HLk3
        go_wp2_with fail
        refine wp_region_qb (by kernel_rfl) (by kernel_rfl) ?_
        repeat (go_big_quiet_step (first | (with_reducible exact Hps.out _ _)))
        refine wpQuiet_nil ?_
        intro w13 B13
        have HB13 := Lib.hid (bot HB12.out B13)
        go_wp2_with fail
        go_roundg q
        case rel => exact ⟨(i : Int), (i : Int), rfl, rfl, by congr 1 <;> omega, by omega, HR3, HB13⟩
        case measure => omega
end Go.Proofs.YtminjjdnmpaaoaaGreatDoor
