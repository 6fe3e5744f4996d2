/-
  The document's placer: what is liked, the best spot: walked.
-/
import Derived.Test.YtminjjdnmpaaoaaGreatDoorPp33
import Derived.Test.YtminjjdnmpaaoaaGreatDoorPp23
import Derived.Test.YtminjjdnmpaaoaaGreatDoorPp06
set_option autoImplicit false
set_option relaxedAutoImplicit false
set_option linter.unusedVariables false
set_option linter.unusedSimpArgs false
namespace Go.Proofs.YtminjjdnmpaaoaaGreatDoor
open Go.Rows Go.RowKit Go.Shelf Go.Sort

set_option maxHeartbeats 6400000 in
set_option maxRecDepth 100000 in
theorem likedD_any (C : DlCtx) (hC : C.Ok) (w : World) (st : PlSt) (hw : DlWd C w st) (h : Nat) (hh : h < st.1.length) (s : ByteArray) (hs : s.size ≤ maxLen) (hlen : ∀ d ∈ st.1, d.path.length ≤ 1024) (x : Pack) (dA : Option Addr) (dn dc : Nat) (eA : Option Addr) (en ec : Nat) (fA : Option Addr) (fn fc : Nat)
    (hv : PackV w (fun _ => True) x (.agg #[.string x.name, .int .i64 x.ver.major, .int .i64 x.ver.minor, .int .i64 x.ver.patch, .slice dA dn dc, .slice eA en ec, .slice fA fn fc])) :
    Calls Tryz.prog 101 #[.pointer (some ⟨C.P, 0, none⟩), .int .i64 (h : Int), .string s, .agg #[.string x.name, .int .i64 x.ver.major, .int .i64 x.ver.minor, .int .i64 x.ver.patch, .slice dA dn dc, .slice eA en ec, .slice fA fn fc]] w fun e w' => e = .returned (.bool (likedB C.q.old (pathAt st.1 h ++ [s]) x)) ∧ Below w.heap.size w w' := by
  obtain ⟨A, c, A', c', hr⟩ := hw.read
  have hPl : (pathAt st.1 h).length ≤ 1024 := hlen _ (List.mem_of_getElem? (dirAt_some hh))
  have HIn : Hid (∀ W, Below w.heap.size w W → Calls Tryz.prog 102 #[.pointer (some ⟨C.P, 0, none⟩), .int .i64 (h : Int), .string s] W fun e w' => ∃ (A : Option Addr) (c : Nat), e = .returned (.slice A ((pathAt st.1 h).length + 1) c) ∧ SlV rStr w' (fun _ => True) (pathAt st.1 h ++ [s]) (.slice A ((pathAt st.1 h).length + 1) c) ∧ Below W.heap.size W w') := fun W hW =>
    (insideD_any C W st (hw.keep hW) h hh s hs (by omega)).mono fun e w' ⟨A, c, h1, h2, h3⟩ => ⟨A, c, h1, h2.more fun _ _ _ => trivial, h3⟩
  have HOl : Hid (∀ W, Below w.heap.size w W → SlV rDir W (fun b => b < C.w0.heap.size) C.ol (.slice C.oA C.on C.oc)) := fun W hW => (hC.o.belowSize hw.base).belowSize hW
  have HFi : Hid (∀ W (B : Option Addr) (m d : Nat), Below w.heap.size w W → SlV rStr W (fun _ => True) (pathAt st.1 h ++ [s]) (.slice B m d) → Calls Tryz.prog 93 #[.agg #[.slice C.oA C.on C.oc], .slice B m d] W fun e w' => e = .returned (.int .i64 (findI C.ol (pathAt st.1 h ++ [s]))) ∧ Below W.heap.size W w') := fun W B m d hW hp => refFind_any _ _ _ _ _ _ C.ol _ W _ _ (HOl.out W hW) hp
  have HX : Hid (∀ W, Below w.heap.size w W → W.cell? ⟨C.P, 6, none⟩ = some (.slice C.oA C.on C.oc)) := fun W hW => below_cell hW hr.c6 hr.hP
  have HX7 : Hid (∀ W, Below w.heap.size w W → W.cell? ⟨C.P, 7, none⟩ = some (.bool C.like)) := fun W hW => below_cell hW hr.c7 hr.hP
  have HV := Lib.hid hv
  have HR0 : Hid (C.like = false → likedB C.q.old (pathAt st.1 h ++ [s]) x = false) := fun hl => by rw [hC.old, hl]; rfl
  have HR1 : Hid (C.like = true → likedB C.q.old (pathAt st.1 h ++ [s]) x = (decide (0 ≤ findI C.ol (pathAt st.1 h ++ [s])) && eqB (dirAt C.ol (findI C.ol (pathAt st.1 h ++ [s])).toNat).pack x)) := fun hl => by rw [hC.old, hl]; rfl
  have HFr : Hid (findI C.ol (pathAt st.1 h ++ [s]) < (C.ol.length : Int)) := by
    unfold Hid
    rcases Int.lt_or_le (findI C.ol (pathAt st.1 h ++ [s])) 0 with hl | hl
    · omega
    · obtain ⟨j, hj⟩ : ∃ j : Nat, findI C.ol (pathAt st.1 h ++ [s]) = (j : Int) := ⟨(findI C.ol (pathAt st.1 h ++ [s])).toNat, by omega⟩
      have := (findI_sound hj).1
      omega
  have Hon := Lib.hid hC.o.n_eq
  have hocap := slv_len hC.o
  have hPz := hr.hP
  clear hr hw hC hv hlen
  generalize likedB C.q.old (pathAt st.1 h ++ [s]) x = R at *
  generalize findI C.ol (pathAt st.1 h ++ [s]) = fi at *
  generalize pathAt st.1 h ++ [s] = jp at *
  generalize (pathAt st.1 h).length = lp at *
  generalize C.oA = oA at *
  generalize C.on = on at *
  generalize C.oc = oc at *
  generalize C.like = lk at *
  generalize C.P = PB at *
  generalize x.name = xn at *
  generalize x.ver.major = x1 at *
  generalize x.ver.minor = x2 at *
  generalize x.ver.patch = x3 at *
  go_enter Tryz.func101, Tryz.ntmps101
  go_upto_region 1 with (fail)
  obtain ⟨w1, hw1⟩ : ∃ w1, w1 = w.alloc (.cells #[.string xn, .int .i64 x1, .int .i64 x2, .int .i64 x3, .slice dA dn dc, .slice eA en ec, .slice fA fn fc] 52) := ⟨_, rfl⟩
  have hq1 : w1.heap[w.heap.size]? = some (.cells #[.string xn, .int .i64 x1, .int .i64 x2, .int .i64 x3, .slice dA dn dc, .slice eA en ec, .slice fA fn fc] 52 (0, 0)) := by rw [hw1]; exact heap_new _ _
  have hB1 : Below w.heap.size w w1 := by rw [hw1]; exact bal (Below.refl _ _) _
  rw [← hw1]
  obtain ⟨QB, hQB⟩ : ∃ k, k = w.heap.size := ⟨_, rfl⟩
  rw [← hQB] at hq1 ⊢
  have HQ := Lib.hid hq1
  have HB1 := Lib.hid hB1
  have x7 := HX7.out w1 hB1
  clear hw1 hQB hq1 hB1
  cases lk with
  | false =>
    have Hr := Lib.hid (HR0.out rfl)
    clear HR0 HR1
    go_wp2_with fail
    go_ret
    exact ⟨ret_bool Hr.out.symm, HB1.out⟩
  | true =>
  have HR2 := Lib.hid (HR1.out rfl)
  clear HR0 HR1
  have x6 := HX.out w1 HB1.out
  go_upto_region 3 with (fail)
  go_region_held3 (fun w' => w'.cell? ⟨PB, 6, none⟩ = some (.slice oA on oc) ∧ Below w1.heap.size w1 w')
        (first
          | exact ⟨x6, (Below.refl _ _).drew⟩
          | (go_split_ands; exact keep8 (w := w1) (by assumption) (by assumption) (fun V hV => HX.out V (bot HB1.out hV))))
        (first
          | (go_at_call 102; go_split_ands; with_reducible refine (HIn.out _ (bot HB1.out (by assumption))).mono ?_; rintro e w5 ⟨vA, vc, rfl, hv, hb2⟩)
          | (go_at_call 93; go_split_ands; with_reducible refine (HFi.out _ _ _ _ (bot HB1.out (by assumption)) (by assumption)).mono ?_; rintro e w6 ⟨rfl, hb3⟩))
  all_goals
    have HBw : Hid (Below w1.heap.size w1 w6) := by (go_split_ands; assumption)
    have HBx := Lib.hid (bot HB1.out HBw.out)
    clear x6 x7
    by_cases hfi : 0 ≤ fi
    case neg =>
      have hI : fi < 0 := by omega
      have Hr : Hid (R = false) := by unfold Hid; rw [HR2.out, decide_eq_false hfi]; rfl
      clear HR2
      go_wp2_with fail
      go_ret
      exact ⟨ret_bool Hr.out.symm, HBx.out⟩
    obtain ⟨j, hj⟩ : ∃ j : Nat, fi = (j : Int) := ⟨fi.toNat, by omega⟩
    subst hj
    have hjl : j < C.ol.length := by have := HFr.out; omega
    have hjn : (j : Int) < (on : Int) := by have := Hon.out; omega
    have hj0 : ¬ (j : Int) < 0 := by omega
    obtain ⟨b, o, gA, gc, hA, hc, kA, kc, hoA, hb, y1, y2, y3, y4, y5, y6, y7, hpv⟩ := old_pack (HOl.out w6 HBx.out) (dirAt_some hjl)
    have HA := Lib.hid hoA
    have x6 := HX.out w6 HBx.out
    rw [hoA] at x6
    clear hoA
    have hq6 := (HBw.out.block _ (Array.getElem?_eq_some_iff.1 HQ.out).1).trans HQ.out
    have p0 := cell_of_row _ _ 0 _ _ _ hq6
    have p1 := cell_of_row _ _ 1 _ _ _ hq6
    have p2 := cell_of_row _ _ 2 _ _ _ hq6
    have p3 := cell_of_row _ _ 3 _ _ _ hq6
    have p4 := cell_of_row _ _ 4 _ _ _ hq6
    have p5 := cell_of_row _ _ 5 _ _ _ hq6
    have p6 := cell_of_row _ _ 6 _ _ _ hq6
    have HSm := Lib.hid (qcall (w := w6) (fun W hW => refSame_any (dirAt C.ol j).pack x _ _ W _ _ (hpv.keep hW) (HV.out.keep (bot HBx.out hW))))
    have HR3 : Hid (R = eqB (dirAt C.ol j).pack x) := by unfold Hid; rw [HR2.out, decide_eq_true hfi, Int.toNat_natCast]; rfl
    clear HR2 hpv hq6
    generalize eqB (dirAt C.ol j).pack x = v at *
    generalize (dirAt C.ol j).pack.deps.length = l1 at *
    generalize (dirAt C.ol j).pack.peers.length = l2 at *
    generalize (dirAt C.ol j).pack.opts.length = l3 at *
    generalize (dirAt C.ol j).pack.name = yn at *
    generalize (dirAt C.ol j).pack.ver.major = z1 at *
    generalize (dirAt C.ol j).pack.ver.minor = z2 at *
    generalize (dirAt C.ol j).pack.ver.patch = z3 at *
    go_upto_region 6 with (fail)
    have r_x6 := cell_regrown x6
    have r_p0 := cell_regrown p0
    have r_p1 := cell_regrown p1
    have r_p2 := cell_regrown p2
    have r_p3 := cell_regrown p3
    have r_p4 := cell_regrown p4
    have r_p5 := cell_regrown p5
    have r_p6 := cell_regrown p6
    have r_y1 := cell_regrown y1
    have r_y2 := cell_regrown y2
    have r_y3 := cell_regrown y3
    have r_y4 := cell_regrown y4
    have r_y5 := cell_regrown y5
    have r_y6 := cell_regrown y6
    have r_y7 := cell_regrown y7
    go_wp2_with fail
    refine wp_region_qb (by kernel_rfl) (by kernel_rfl) ?_
    repeat (go_big_quiet_step (first | (with_reducible exact HSm.out _ _)))
    refine wpQuiet_nil ?_
    intro w7 B7
    go_wp2_with fail
    go_ret
    exact ⟨ret_bool HR3.out.symm, bot HBx.out B7⟩

theorem bestGo_step (T : List Dir) (S : List Stl) (old : Option (List Dir)) (f : Nat) (s : ByteArray) (x : Pack) (k : Nat) (b : Int) (lk : Bool) (h : bestGo T S old f s x k = (b, lk)) :
    bestGo T S old f s x (k + 1) = if spotD T S k f s = true ∧ ((likedB old (pathAt T k ++ [s]) x = true ∧ lk = false) ∨ (likedB old (pathAt T k ++ [s]) x = lk ∧ (decide (b < 0) || decide ((pathAt T k).length < (pathAt T b.toNat).length)) = true)) then ((k : Int), likedB old (pathAt T k ++ [s]) x) else (b, lk) := by
  rw [bestGo, h]
  rfl

set_option maxHeartbeats 12800000 in
set_option maxRecDepth 100000 in
theorem bestD_any (C : DlCtx) (hC : C.Ok) (w : World) (st : PlSt) (hw : DlWd C w st) (f tn : Nat) (hf : f < st.1.length) {n : Node} (hn : C.q.g[tn]? = some n) {x : Pack} (hx : C.q.ps[tn]? = some x) (hlen : ∀ d ∈ st.1, d.path.length ≤ 1024) (hst : ∀ x ∈ st.2, x.frm < st.1.length ∧ x.dst < st.1.length) :
    Calls Tryz.prog 59 #[.pointer (some ⟨C.P, 0, none⟩), .int .i64 (f : Int), .int .i64 (tn : Int)] w fun e w' => e = .returned (.int .i64 (bestI st.1 st.2 C.q.old f n.name x)) ∧ Below w.heap.size w w' := by
  have HW := Lib.hid hw
  have hbase := hw.base
  obtain ⟨A, c, A', c', hr⟩ := hw.read
  obtain ⟨hl1, hl2⟩ := hr.len
  obtain ⟨gb, go, xA, xc, eA, ec, hgA, hgb, hgn, n0, n1, n2, n3, n4, n5, hctx, hedg, hnsz⟩ := hr.node hC hbase hn
  obtain ⟨pb, po, dA, dc, kA, kc, fA, fc, hpA, hpb, hpn, k0, k1, k2, k3, k4, k5, k6, hpv, _⟩ := hr.pack hC hbase hx
  have hgcap := slv_len hC.g
  have hpcap := slv_len hC.p
  have hPz := hr.hP
  have hgw : gb < w.heap.size := Nat.lt_of_lt_of_le hgb hbase.size
  have hpw : pb < w.heap.size := Nat.lt_of_lt_of_le hpb hbase.size
  have x0 := hr.c0
  rw [hgA] at x0
  have HSp : Hid (∀ W (i : Nat), Below w.heap.size w W → i < st.1.length → Calls Tryz.prog 100 #[.pointer (some ⟨C.P, 0, none⟩), .int .i64 (i : Int), .int .i64 (f : Int), .string n.name] W fun e w' => e = .returned (.bool (spotD st.1 st.2 i f n.name)) ∧ Below W.heap.size W w') := fun W i hW hi => spotD_any C W st (hw.keep hW) i f hi hf n.name hnsz hlen hst
  have HLk : Hid (∀ W (i : Nat), Below w.heap.size w W → i < st.1.length → Calls Tryz.prog 101 #[.pointer (some ⟨C.P, 0, none⟩), .int .i64 (i : Int), .string n.name, .agg #[.string x.name, .int .i64 x.ver.major, .int .i64 x.ver.minor, .int .i64 x.ver.patch, .slice dA x.deps.length dc, .slice kA x.peers.length kc, .slice fA x.opts.length fc]] W fun e w' => e = .returned (.bool (likedB C.q.old (pathAt st.1 i ++ [n.name]) x)) ∧ Below W.heap.size W w') := fun W i hW hi => by
    refine likedD_any C hC W st (hw.keep hW) i hi n.name hnsz hlen x dA _ dc kA _ kc fA _ fc ?_
    obtain ⟨A1, n1, c1, A2, n2, c2, A3, n3, c3, h1, h2, h3, h4, h5⟩ := hpv.keep hW
    exact ⟨A1, n1, c1, A2, n2, c2, A3, n3, c3, h1, h2, h3.more fun _ _ _ => trivial, h4.more fun _ _ _ => trivial, h5.more fun _ _ _ => trivial⟩
  have HX : Hid (∀ W, Below w.heap.size w W → W.cell? ⟨C.P, 8, none⟩ = some (.slice A st.1.length c)) := fun W hW => below_cell hW hr.c8 hPz
  have HP : Hid (∀ W, Below w.heap.size w W → W.cell? ⟨C.P, 1, none⟩ = some (.slice (some ⟨pb, po, none⟩) C.pn C.pc) ∧ W.cell? ⟨pb, po + tn * 7, none⟩ = some (.string x.name) ∧ W.cell? ⟨pb, po + tn * 7 + 1, none⟩ = some (.int .i64 x.ver.major) ∧ W.cell? ⟨pb, po + tn * 7 + 2, none⟩ = some (.int .i64 x.ver.minor) ∧ W.cell? ⟨pb, po + tn * 7 + 3, none⟩ = some (.int .i64 x.ver.patch) ∧ W.cell? ⟨pb, po + tn * 7 + 4, none⟩ = some (.slice dA x.deps.length dc) ∧ W.cell? ⟨pb, po + tn * 7 + 5, none⟩ = some (.slice kA x.peers.length kc) ∧ W.cell? ⟨pb, po + tn * 7 + 6, none⟩ = some (.slice fA x.opts.length fc)) := fun W hW =>
    ⟨by rw [← hpA]; exact below_cell hW hr.c1 hPz, below_cell hW k0 hpw, below_cell hW k1 hpw, below_cell hW k2 hpw, below_cell hW k3 hpw, below_cell hW k4 hpw, below_cell hW k5 hpw, below_cell hW k6 hpw⟩
  have HD : Hid (∀ W (a : Nat), Below w.heap.size w W → a < st.1.length → ∃ b o pA pc, A = some ⟨b, o, none⟩ ∧ W.cell? ⟨b, o + a * 9, none⟩ = some (.slice pA (pathAt st.1 a).length pc)) := fun W a hW ha => by
    obtain ⟨b', o', pA, pc, hA', _, y, _⟩ := (hr.keep hW).dir (dirAt_some ha)
    exact ⟨b', o', pA, pc, hA', y⟩
  have HSt : Hid (∀ (k : Nat) (b : Int) (lk : Bool), bestGo st.1 st.2 C.q.old f n.name x k = (b, lk) → bestGo st.1 st.2 C.q.old f n.name x (k + 1) = if spotD st.1 st.2 k f n.name = true ∧ ((likedB C.q.old (pathAt st.1 k ++ [n.name]) x = true ∧ lk = false) ∨ (likedB C.q.old (pathAt st.1 k ++ [n.name]) x = lk ∧ (decide (b < 0) || decide ((pathAt st.1 k).length < (pathAt st.1 b.toNat).length)) = true)) then ((k : Int), likedB C.q.old (pathAt st.1 k ++ [n.name]) x) else (b, lk)) := fun k b lk h => bestGo_step _ _ _ _ _ _ k b lk h
  have HR : Hid (bestI st.1 st.2 C.q.old f n.name x = (bestGo st.1 st.2 C.q.old f n.name x st.1.length).1) := rfl
  have HR0 : Hid (bestGo st.1 st.2 C.q.old f n.name x 0 = (-1, false)) := rfl
  have HPt : Hid (∀ i, i < st.1.length → (pathAt st.1 i).length ≤ 1024) := fun i hi => hlen _ (List.mem_of_getElem? (dirAt_some hi))
  clear hr hw hC hn hx hlen hst hbase hgA hpA hctx hedg hpv k0 k1 k2 k3 k4 k5 k6 n1 n2 n3 n4 n5
  obtain ⟨N, hN⟩ : ∃ N, N = st.1.length := ⟨_, rfl⟩
  rw [← hN] at hf hl1 HSp HLk HX HD HR HPt
  clear hN
  generalize bestI st.1 st.2 C.q.old f n.name x = R at *
  generalize bestGo st.1 st.2 C.q.old f n.name x = BG at *
  generalize C.P = PB at *
  generalize C.gn = gn at *
  generalize C.pn = pn at *
  generalize x.deps.length = l1 at *
  generalize x.peers.length = l2 at *
  generalize x.opts.length = l3 at *
  generalize n.name = s at *
  have ht0 : (0 : Int) ≤ (tn : Int) := by omega
  have htg : (tn : Int) < (gn : Int) := by omega
  have htp : (tn : Int) < (pn : Int) := by omega
  go_enter Tryz.func59, Tryz.ntmps59
  go_wp2_with fail
  clear x0 n0
  go_loopw [8, 9, 10] (fun bv lv t wr => ∃ (k : Nat) (bs : Int) (lk : Bool), k ≤ N ∧ bv = .int .i64 bs ∧ lv = .bool lk ∧ t = .int .i64 k ∧ Hid (BG k = (bs, lk)) ∧ Hid (bs < (k : Int) ∧ -1 ≤ bs) ∧ Hid (Below w.heap.size w wr)) (fun _ _ t _ => N - (intOf t).toNat)
  case atStart => exact ⟨0, -1, false, Nat.zero_le _, rfl, rfl, rfl, HR0, ⟨by decide, by decide⟩, Below.refl _ _⟩
  case round =>
    clear HR0
    obtain ⟨k, bs, lk, hk, rfl, rfl, rfl, hBG, hbs, hbel⟩ := hrel
    have hk0 : (0 : Int) ≤ (k : Int) := by omega
    have x8 := HX.out wr hbel.out
    by_cases hlt : k < N
    case neg =>
      have hkN : k = N := by omega
      have Hr : Hid (R = bs) := by unfold Hid; rw [HR.out, ← hkN, hBG.out]
      have hI : ¬ (k : Int) < (N : Int) := by omega
      clear hBG hkN HR
      go_wp2_with fail
      go_ret
      exact ⟨ret_int Hr.out.symm, hbel.out⟩
    have hkn : (k : Int) < (N : Int) := by omega
    have Hs := Lib.hid (HSp.out wr k hbel.out hlt)
    have Hl : Hid (∀ W, Below wr.heap.size wr W → _) := fun W hW => HLk.out W k (bot hbel.out hW) hlt
    have Hst := Lib.hid (HSt.out k bs lk hBG.out)
    have hpk := HPt.out k hlt
    clear hBG
    generalize spotD st.1 st.2 k f s = ok at *
    generalize likedB C.q.old (pathAt st.1 k ++ [s]) x = lb at *
    go_wp2_with fail
    refine Hs.out.mono ?_
    rintro e w3 ⟨rfl, B3⟩
    have HB3 := Lib.hid (bot hbel.out B3)
    have Hl3 := Lib.hid (Hl.out w3 B3)
    clear B3 Hs Hl x8
    obtain ⟨p, p0, p1, p2, p3, p4, p5, p6⟩ := HP.out w3 HB3.out
    go_wp2_with fail
    refine Hl3.out.mono ?_
    rintro e w4 ⟨rfl, B4⟩
    have HB4 := Lib.hid (bot HB3.out B4)
    clear B4 Hl3 p p0 p1 p2 p3 p4 p5 p6 HB3
    have x8 := HX.out w4 HB4.out
    obtain ⟨b, o, qA, qc, hA, y1⟩ := HD.out w4 k HB4.out hlt
    have HA := Lib.hid hA
    rw [hA] at x8
    clear hA
    have Hbf : Hid (∀ W, Below w4.heap.size w4 W → Below w.heap.size w W) := fun W hW => bot HB4.out hW
    have hbs1 := hbs.out.1
    have hbs2 := hbs.out.2
    go_upto_region 9 with (fail)
    obtain ⟨nr, hnr⟩ : ∃ nr, nr = (decide (bs < 0) || decide ((pathAt st.1 k).length < (pathAt st.1 bs.toNat).length)) := ⟨_, rfl⟩
    rw [← hnr] at Hst
    have Hnr := Lib.hid hnr
    clear hnr
    go_cut [13] from 49 to 73 (fun bv wx => bv = .bool nr ∧ Hid (Below w.heap.size w wx))
    case first =>
      by_cases h1 : bs < 0
      case pos =>
        have hId : decide (bs < 0) = true := decide_eq_true h1
        have Hq : Hid (nr = true) := by unfold Hid; rw [Hnr.out, hId, Bool.true_or]
        clear Hst Hnr
        have r_x8 := cell_regrown x8
        have r_y1 := cell_regrown y1
        go_wp2_with fail
        refine wp_region_qb (by kernel_rfl) (by kernel_rfl) ?_
        repeat (go_big_quiet_step (first | fail))
        refine wpQuiet_nil ?_
        intro w5 B5
        have HB5 := Lib.hid (Hbf.out _ B5)
        go_wp2_with fail
        go_meet
        exact ⟨by rw [Hq.out], HB5⟩
      obtain ⟨j, hj⟩ : ∃ j : Nat, bs = (j : Int) := ⟨bs.toNat, by omega⟩
      have hjN : j < N := by omega
      obtain ⟨b2, o2, rA, rc, hA2, y2⟩ := HD.out w4 j HB4.out hjN
      rw [HA.out] at hA2
      injection hA2 with hA2
      injection hA2 with hb2 ho2 _
      subst hb2 ho2
      have Hq : Hid (nr = decide ((pathAt st.1 k).length < (pathAt st.1 j).length)) := by unfold Hid; rw [Hnr.out, decide_eq_false h1, Bool.false_or, hj, Int.toNat_natCast]
      have hId2 : decide ((j : Int) < 0) = false := decide_eq_false (by omega)
      have hj0 : (0 : Int) ≤ (j : Int) := by omega
      have hjI : (j : Int) < (N : Int) := by omega
      have hpj := HPt.out j hjN
      subst hj
      clear Hst h1 hbs Hnr
      generalize (pathAt st.1 k).length = lp at *
      generalize (pathAt st.1 j).length = lj at *
      by_cases h2 : lp < lj
      · have hI : (lp : Int) < (lj : Int) := by omega
        have hD : decide ((lp : Int) < (lj : Int)) = true := decide_eq_true hI
        have Hq2 := Lib.hid (Hq.out.trans (decide_eq_true h2))
        have r_x8 := cell_regrown x8
        have r_y1 := cell_regrown y1
        have r_y2 := cell_regrown y2
        go_wp2_with fail
        refine wp_region_qb (by kernel_rfl) (by kernel_rfl) ?_
        repeat (go_big_quiet_step (first | fail))
        refine wpQuiet_nil ?_
        intro w5 B5
        have HB5 := Lib.hid (Hbf.out _ B5)
        go_wp2_with fail
        go_meet
        exact ⟨by rw [Hq2.out], HB5⟩
      · have hI : ¬ (lp : Int) < (lj : Int) := by omega
        have hD : decide ((lp : Int) < (lj : Int)) = false := decide_eq_false hI
        have Hq2 := Lib.hid (Hq.out.trans (decide_eq_false h2))
        have r_x8 := cell_regrown x8
        have r_y1 := cell_regrown y1
        have r_y2 := cell_regrown y2
        go_wp2_with fail
        refine wp_region_qb (by kernel_rfl) (by kernel_rfl) ?_
        repeat (go_big_quiet_step (first | fail))
        refine wpQuiet_nil ?_
        intro w5 B5
        have HB5 := Lib.hid (Hbf.out _ B5)
        go_wp2_with fail
        go_meet
        exact ⟨by rw [Hq2.out], HB5⟩
    case rest =>
    obtain ⟨hbv, HB5⟩ := hcut
    subst hbv
    clear x8 y1 Hnr
    have HB5' : Hid (Below w.heap.size w wc) := HB5
    cases ok <;> cases lb <;> cases lk <;> cases nr
    all_goals
      go_wp2_with fail
      go_roundw
      case rel =>
        first
          | exact ⟨k + 1, bs, _, by omega, rfl, rfl, by go_num, by have h := Hst.out; unfold Hid; simpa using h, ⟨by omega, by omega⟩, HB5'⟩
          | exact ⟨k + 1, (k : Int), _, by omega, rfl, rfl, by go_num, by have h := Hst.out; unfold Hid; simpa using h, ⟨by omega, by omega⟩, HB5'⟩
      case measure => simp [intOf]; omega
end Go.Proofs.YtminjjdnmpaaoaaGreatDoor
