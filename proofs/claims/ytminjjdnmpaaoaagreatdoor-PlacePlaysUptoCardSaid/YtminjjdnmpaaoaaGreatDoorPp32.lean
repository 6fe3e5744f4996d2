/-
  The document's placer: what stands above, the path of a name, what was settled, what is seen: walked.
-/
import Derived.Test.YtminjjdnmpaaoaaGreatDoorPp31
import Derived.Test.YtminjjdnmpaaoaaGreatDoorPp23
import Derived.Test.YtminjjdnmpaaoaaGreatDoorPp07
import Derived.Test.YtminjjdnmpaaoaaGreatDoorPp18
import Derived.Deep.CutRange
import Derived.Deep.RegionLaw
import Derived.Deep.RegionHeld3
set_option autoImplicit false
set_option relaxedAutoImplicit false
set_option linter.unusedVariables false
set_option linter.unusedSimpArgs false
namespace Go.Proofs.YtminjjdnmpaaoaaGreatDoor
open Go.Rows Go.RowKit Go.Shelf Go.Sort

theorem eqB_swap {α : Type} (x y : α) : eqB x y = eqB y x := by
  by_cases h : x = y
  · rw [eqB_true h, eqB_true h.symm]
  · rw [eqB_false h, eqB_false (fun e => h e.symm)]

set_option maxHeartbeats 1600000 in
set_option maxRecDepth 100000 in
theorem above_any (C : DlCtx) (w : World) (st : PlSt) (hw : DlWd C w st) (h a : Nat) (hh : h < st.1.length) (ha : a < st.1.length) :
    Calls Tryz.prog 137 #[.pointer (some ⟨C.P, 0, none⟩), .int .i64 (h : Int), .int .i64 (a : Int)] w fun e w' => e = .returned (.bool (underP (pathAt st.1 a) (pathAt st.1 h))) ∧ Below w.heap.size w w' := by
  obtain ⟨A, c, A', c', hr⟩ := hw.read
  have hlen := hr.len.1
  have x8 := hr.c8
  obtain ⟨b, o, pA, pc, hA, hb, y0, _, hp, hpl, hpm⟩ := hr.dir (dirAt_some ha)
  obtain ⟨b2, o2, qA, qc, hA2, _, z0, _, hq, hql, hqm⟩ := hr.dir (dirAt_some hh)
  rw [hA] at hA2
  injection hA2 with hA2
  injection hA2 with hb2 ho2 _
  subst hb2 ho2 hA
  have hPz := hr.hP
  unfold maxLen at hpm hqm
  show Calls _ _ _ _ fun e w' => e = .returned (.bool (underP (dirAt st.1 a).path (dirAt st.1 h).path)) ∧ _
  generalize (dirAt st.1 a).path = pa at *
  generalize (dirAt st.1 h).path = ph at *
  have HR : Hid (underP pa ph = (decide (ph.length ≤ pa.length) && eqB ph (pa.take ph.length))) := by unfold Hid; rw [eqB_swap]; rfl
  generalize underP pa ph = R at *
  obtain ⟨n, hn⟩ : ∃ n, n = st.1.length := ⟨_, rfl⟩
  obtain ⟨la, hla⟩ : ∃ n, n = pa.length := ⟨_, rfl⟩
  obtain ⟨lh, hlh⟩ : ∃ n, n = ph.length := ⟨_, rfl⟩
  rw [← hn] at x8 ha hh hlen
  rw [← hla] at y0 hp HR hpl
  rw [← hlh] at z0 hq HR hql
  have HP := Lib.hid hp
  have HQ := Lib.hid hq
  have Hla := Lib.hid hla
  have Hlh := Lib.hid hlh
  clear hr hw hn hp hq hla hlh
  generalize C.P = PB at *
  have ha0 : (0 : Int) ≤ (a : Int) := by omega
  have hh0 : (0 : Int) ≤ (h : Int) := by omega
  have han : (a : Int) < (n : Int) := by omega
  have hhn : (h : Int) < (n : Int) := by omega
  go_enter Tryz.func137, Tryz.ntmps137
  by_cases hle : lh ≤ la
  · have hI : ¬ (la : Int) < (lh : Int) := by omega
    have hD : decide (la < lh) = false := decide_eq_false (by omega)
    have hlh0 : (0 : Int) ≤ (lh : Int) := by omega
    have hlc : lh ≤ pc := by omega
    have hw2 : IntKind.i64.wrap (lh : Int) = (lh : Int) := IntWalk.i64_in _ ⟨by omega, by omega⟩
    have He : Hid (R = eqB ph (pa.take lh)) := by unfold Hid; rw [HR.out, decide_eq_true hle, Bool.true_and]
    have HE : Hid (∀ W, Below w.heap.size w W → Calls Tryz.prog 31 #[.slice qA lh qc, .slice pA lh pc] W fun e w' => e = .returned (.bool (eqB ph (pa.take lh))) ∧ Below W.heap.size W w') := fun W hW =>
      refPath_any qA pA lh lh qc pc ph (pa.take lh) W _ _ (HQ.out.belowSize hW) (SlV.take (HP.out.belowSize hW) (by rw [← Hla.out]; exact hle))
    generalize eqB ph (pa.take lh) = v at *
    clear HR HP HQ
    go_wp2_with fail
    refine (HE.out w (Below.refl _ _)).mono ?_
    rintro e w2 ⟨rfl, hb2⟩
    have HB2 := Lib.hid hb2
    clear hb2 HE
    go_wp2_with fail
    go_ret
    exact ⟨ret_bool He.out.symm, HB2.out⟩
  · have hI : (la : Int) < (lh : Int) := by omega
    have hD : decide (la < lh) = true := decide_eq_true (by omega)
    have He : Hid (R = false) := by unfold Hid; rw [HR.out, decide_eq_false hle, Bool.false_and]
    clear HR HP HQ
    go_wp2_with fail
    go_ret
    exact ⟨ret_bool He.out.symm, Below.refl _ _⟩

theorem elems_strs {w w' : World} {S S' : Nat → Prop} : ∀ {l : List ByteArray} {xs : List Value}, Elems rStr w S l xs → Elems rStr w' S' l xs
  | [], _, h => h
  | x :: l, _, ⟨cs, rest, h1, h2, h3⟩ => ⟨cs, rest, h1, h2, elems_strs h3⟩
theorem own_strs {w : World} {base : Nat} {e : TypeId} {v : Value} {l : List ByteArray} {S : Nat → Prop} (h : Own rStr w base e v l S) : Own rStr w base e v l (fun _ => False) := by
  obtain ⟨h0, xs, h1, h2⟩ := h
  exact ⟨fun b hb => hb.elim, xs, h1, elems_strs h2⟩

set_option maxHeartbeats 3200000 in
set_option maxRecDepth 100000 in
theorem insideD_any (C : DlCtx) (w : World) (st : PlSt) (hw : DlWd C w st) (h : Nat) (hh : h < st.1.length) (s : ByteArray) (hs : s.size ≤ maxLen) (hlen : (pathAt st.1 h).length * 32 ≤ 140737488355000) :
    Calls Tryz.prog 102 #[.pointer (some ⟨C.P, 0, none⟩), .int .i64 (h : Int), .string s] w fun e w' => ∃ (A : Option Addr) (c : Nat), e = .returned (.slice A ((pathAt st.1 h).length + 1) c) ∧ SlV rStr w' (fun b => w.heap.size ≤ b) (pathAt st.1 h ++ [s]) (.slice A ((pathAt st.1 h).length + 1) c) ∧ Below w.heap.size w w' := by
  obtain ⟨A, c, A', c', hr⟩ := hw.read
  have hlen1 := hr.len.1
  have x8 := hr.c8
  obtain ⟨b, o, pA, pc, hA, hb, y0, _, hp, hpl, hpm⟩ := hr.dir (dirAt_some hh)
  subst hA
  have hPz := hr.hP
  have hlen' : (dirAt st.1 h).path.length * 32 ≤ 140737488355000 := hlen
  show Calls _ _ _ _ fun e w' => ∃ (A : Option Addr) (c : Nat), e = .returned (.slice A ((dirAt st.1 h).path.length + 1) c) ∧ SlV rStr w' _ ((dirAt st.1 h).path ++ [s]) (.slice A ((dirAt st.1 h).path.length + 1) c) ∧ _
  generalize (dirAt st.1 h).path = ph at *
  obtain ⟨n, hn⟩ : ∃ n, n = st.1.length := ⟨_, rfl⟩
  rw [← hn] at x8 hh hlen1
  obtain ⟨lh, hlh⟩ : ∃ n, n = ph.length := ⟨_, rfl⟩
  rw [← hlh] at y0 hp hpl hlen' ⊢
  have HP := Lib.hid hp
  have Hlh := Lib.hid hlh
  have Hs := Lib.hid hs
  clear hr hw hn hp hlen hlh hs
  generalize C.P = PB at *
  have hh0 : (0 : Int) ≤ (h : Int) := by omega
  have hhn : (h : Int) < (n : Int) := by omega
  go_enter Tryz.func102, Tryz.ntmps102
  go_wp2_with (at_builtin; refine wpList_extend (by rfl) _ _ _ (by rfl) elt_string Tryz.underlying48 (by rfl) (Own.nil_ rStr w w.heap.size 9 (S := fun _ => False) (fun b h => h.elim)) (fun _ => True) ph pA lh pc (by rfl) HP.out (by intro b hb he; simp [Value.ownBlock] at he) (by rw [← Hlh.out]; simp [maxLen]; omega) (by rw [← Hlh.out]; simp; omega) (Nat.le_refl _) ?_)
  intro v1 w1 hown1 hgrow1 hat1
  have hb1 : Below w.heap.size w w1 := (Below.refl _ _).grown hgrow1 (Nat.le_refl _) (fun k hk => by cases hk)
  have hown1' := own_strs hown1
  have HO1 := Lib.hid hown1'
  have HB1 := Lib.hid hb1
  have hz1 : w.heap.size ≤ w1.heap.size := hb1.size
  clear hown1 hown1' hgrow1 hat1 hb1 x8 y0
  go_wp2_with (at_builtin; refine wpList_push (by rfl) _ _ _ (by rfl) elt_string Tryz.underlying48 (by rfl) (HO1.out.alloc _) ⟨w1.heap.size, 0, none⟩ 1 [.string s] s (by rfl) ⟨rfl, Hs.out⟩ (news_of w1 #[.string s] _) (by rw [← Hlh.out]; unfold maxLen; omega) (by rw [← Hlh.out]; omega) (Nat.le_trans hz1 (by simp)) (w1.heap.size + 1) (by simp) ?_)
  intro g9 cap9 w9 hown9 hgrow9 hat9 hlt9
  have hb9 : Below w.heap.size w w9 := bgrown (bal HB1.out _) hgrow9 (HO1.out.alloc _) (Nat.le_refl _)
  have hs9 := hown9.slvB
  have HS9 := Lib.hid hs9
  have HB9 := Lib.hid hb9
  clear hown9 hgrow9 hat9 hb9 hs9
  rw [← Hlh.out]
  rw [← Hlh.out] at HS9
  go_wp2_with fail
  go_ret
  exact ⟨_, _, rfl, HS9.out, HB9.out⟩

set_option maxHeartbeats 3200000 in
set_option maxRecDepth 100000 in
theorem settledD_any (C : DlCtx) (w : World) (st : PlSt) (hw : DlWd C w st) (i : Nat) (hi : i ≤ 1000000) (s : ByteArray) :
    Calls Tryz.prog 99 #[.pointer (some ⟨C.P, 0, none⟩), .int .i64 (i : Int), .string s] w fun e w' => e = .returned (.int .i64 (foundS st.2 i s)) ∧ Below w.heap.size w w' := by
  obtain ⟨A, c, A', c', hr⟩ := hw.read
  have x9 := hr.c9
  have hst := Lib.hid hr.stls
  have hn63 := hr.len.2
  have HR : Hid (foundS st.2 i s = foundS (st.2.drop 0) i s) := by unfold Hid; rw [List.drop_zero]
  have Hend : Hid (∀ k, st.2.length ≤ k → foundS (st.2.drop k) i s = -1) := fun k hk => by rw [List.drop_eq_nil_of_le hk]; rfl
  clear hr hw
  obtain ⟨n, hn⟩ : ∃ n, n = st.2.length := ⟨_, rfl⟩
  rw [← hn] at x9 hst Hend hn63
  have Hn := Lib.hid hn
  clear hn
  generalize st.2 = SS at *
  generalize foundS SS i s = R at *
  generalize C.P = PB at *
  go_enter Tryz.func99, Tryz.ntmps99
  go_wp2_with fail
  go_loopw [7] (fun t wr => ∃ k : Nat, k ≤ n ∧ t = .int .i64 k ∧ Hid (R = foundS (SS.drop k) i s) ∧ Hid (wr = w)) (fun t _ => n - (intOf t).toNat)
  case atStart => exact ⟨0, Nat.zero_le _, rfl, HR, rfl⟩
  case round =>
    clear HR
    obtain ⟨k, hk, rfl, heq, hwr⟩ := hrel
    rw [← hwr.out] at x9
    have hk0 : (0 : Int) ≤ (k : Int) := by omega
    have HBr : Hid (Below w.heap.size w wr) := by unfold Hid; rw [hwr.out]; exact Below.refl _ _
    by_cases hlt : k < n
    case neg =>
      have He : Hid (R = -1) := by unfold Hid; rw [heq.out, Hend.out k (by omega)]
      have hI : ¬ (k : Int) < (n : Int) := by omega
      clear heq Hend
      go_wp2_with fail
      go_ret
      exact ⟨ret_int He.out.symm, HBr.out⟩
    have hkn : (k : Int) < (n : Int) := by omega
    obtain ⟨x, hx⟩ : ∃ x, SS[k]? = some x := ⟨_, List.getElem?_eq_getElem (by have := Hn.out; omega)⟩
    obtain ⟨b, o, cs, hA, _, hb1, ⟨rfl, hlz, hf, hd⟩, hcell⟩ := (hst.out.belowSize HBr.out).elem hx
    subst hA
    have c0 := hcell 0 _ rfl
    have c1 := hcell 1 _ rfl
    have c2 := hcell 2 _ rfl
    simp only [rStl, Nat.add_zero] at c0 c1 c2
    have Hstep := Lib.hid (foundS_step hx i s)
    clear hcell hlz
    obtain ⟨xf, xl, xd⟩ := x
    simp only at c0 c1 c2 hf hd Hstep
    by_cases h1 : xf = i
    · have hb1 : ((xf : Int) == (i : Int)) = true := by simp [h1]
      by_cases h2 : xl = s
      · have hb2 := beq_true h2
        have He : Hid (R = (xd : Int)) := by unfold Hid; rw [heq.out, Hstep.out, if_pos ⟨h1, h2⟩]
        clear heq Hstep h1 h2 Hend
        go_wp2_with fail
        go_ret
        exact ⟨ret_int He.out.symm, HBr.out⟩
      · have hb2 := beq_false h2
        have He : Hid (R = foundS (SS.drop (k + 1)) i s) := by unfold Hid; rw [heq.out, Hstep.out, if_neg (fun h => h2 h.2)]
        clear heq Hstep h1 h2
        go_wp2_with fail
        go_roundw
        case rel => exact ⟨k + 1, by omega, by go_num, He, hwr⟩
        case measure => simp [intOf]; omega
    · have hb1 : ((xf : Int) == (i : Int)) = false := by simp; omega
      have He : Hid (R = foundS (SS.drop (k + 1)) i s) := by unfold Hid; rw [heq.out, Hstep.out, if_neg (fun h => h1 h.1)]
      clear heq Hstep h1
      go_wp2_with fail
      go_roundw
      case rel => exact ⟨k + 1, by omega, by go_num, He, hwr⟩
      case measure => simp [intOf]; omega

theorem one_newD (w : World) (oa : Obj) : Below w.heap.size w (w.alloc oa).drew ∧ (w.alloc oa).drew.heap[w.heap.size]? = some oa := ⟨(bal (Below.refl _ _) _).drew, heap_new w oa⟩

set_option maxHeartbeats 3200000 in
set_option maxRecDepth 100000 in
theorem sees_any (C : DlCtx) (hC : C.Ok) (w : World) (st : PlSt) (hw : DlWd C w st) (a f : Nat) (ha : a < st.1.length) (hf : f ≤ 1000000) {n : Node} {j : Nat} (hj : (dirAt st.1 a).node = (j : Int)) (hn : C.q.g[j]? = some n) (hlen : ∀ d ∈ st.1, d.path.length * 32 ≤ 140737488355328) :
    Calls Tryz.prog 58 #[.pointer (some ⟨C.P, 0, none⟩), .int .i64 (a : Int), .int .i64 (f : Int)] w fun e w' => e = .returned (.bool (seesB C.q.g st.1 st.2 a f)) ∧ Below w.heap.size w w' := by
  obtain ⟨A, c, A', c', hr⟩ := hw.read
  have hlen1 := hr.len.1
  have x0 := hr.c0
  have x8 := hr.c8
  obtain ⟨b, o, pA, pc, hA, hb, _, y8, _, _, _⟩ := hr.dir (dirAt_some ha)
  obtain ⟨gb, go, xA, xc, eA, ec, hgA, hgb, hjn, g0, g1, g2, g3, g4, g5, hx, _, _⟩ := hr.node hC hw.base hn
  rw [hj] at y8
  subst hA
  have hgcap := slv_len (hC.g)
  have hxl := slv_len hx
  have hnlt : C.gn ≤ 9223372036854775807 := hgcap
  rw [hgA] at x0
  have hHP := hr.hP
  have hgw : gb < w.heap.size := Nat.lt_of_lt_of_le hgb hw.base.size
  have HF : Hid (∀ W (s : ByteArray), Below w.heap.size w W → Calls Tryz.prog 99 #[.pointer (some ⟨C.P, 0, none⟩), .int .i64 (f : Int), .string s] W fun e w' => e = .returned (.int .i64 (foundS st.2 f s)) ∧ Below W.heap.size W w') := fun W s hW => settledD_any C W st (hw.keep hW) f hf s
  have HL : Hid (∀ W (s : ByteArray), s.size ≤ maxLen → Below w.heap.size w W → Calls Tryz.prog 57 #[.agg #[.slice (some ⟨b, o, none⟩) st.1.length c], .int .i64 (a : Int), .string s] W fun e w' => e = .returned (.int .i64 (lookI st.1 (a : Int) s)) ∧ Below W.heap.size W w') := fun W s hs hW => refLook_any _ _ _ st.1 s W _ (a : Int) hs hlen (hr.dirs.belowSize hW)
  have HX8 : Hid (∀ W, Below w.heap.size w W → W.cell? ⟨C.P, 8, none⟩ = some (.slice (some ⟨b, o, none⟩) st.1.length c)) := fun W hW => below_cell hW x8 hHP
  have HR : Hid (seesB C.q.g st.1 st.2 a f = (n.ctx.drop 0).all (seesOne st.1 st.2 a f)) := by
    unfold Hid seesB
    rw [hj, Int.toNat_natCast, hn]
    rfl
  have H1 : Hid (∀ q : Pin, seesOne st.1 st.2 a f q = (decide (0 ≤ foundS st.2 f q.name) && decide (lookI st.1 (a : Int) q.name = foundS st.2 f q.name))) := fun q => rfl
  have HX := Lib.hid (hx.more (S' := fun _ => True) fun _ _ _ => trivial)
  obtain ⟨m, hm⟩ : ∃ m, m = n.ctx.length := ⟨_, rfl⟩
  rw [← hm] at g4 HX hxl
  have Hm := Lib.hid hm
  obtain ⟨N, hN⟩ : ∃ N, N = st.1.length := ⟨_, rfl⟩
  rw [← hN] at x8 HX8 HL ha hlen1
  obtain ⟨m5, hm5⟩ : ∃ m, m = n.edges.length := ⟨_, rfl⟩
  rw [← hm5] at g5
  clear hm hN hm5 hr hw hx hC hgA hn hj hlen
  generalize seesB C.q.g st.1 st.2 a f = R at *
  generalize C.P = PB at *
  generalize C.gn = gn at *
  generalize C.gc = gc at *
  generalize n.ctx = ctx at *
  generalize n.name = m0 at *
  generalize n.ver.major = m1 at *
  generalize n.ver.minor = m2 at *
  generalize n.ver.patch = m3 at *
  have ha0 : (0 : Int) ≤ (a : Int) := by omega
  have han : (a : Int) < (N : Int) := by omega
  have hj0 : (0 : Int) ≤ (j : Int) := by omega
  have hjI : (j : Int) < (gn : Int) := by omega
  go_enter Tryz.func58, Tryz.ntmps58
  have hne1 : PB ≠ w.heap.size := by omega
  have hne2 : gb ≠ w.heap.size := by omega
  have hne3 : b ≠ w.heap.size := by omega
  go_upto_region 1 with (fail)
  go_cut [7] from 10 to 25 (fun nv wx => ∃ NB : Nat, nv = .pointer (some ⟨NB, 0, none⟩) ∧ Hid (Below w.heap.size w wx ∧ w.heap.size ≤ NB ∧
    wx.heap[NB]? = some (.cells #[.string m0, .int .i64 m1, .int .i64 m2, .int .i64 m3, .slice xA m xc, .slice eA m5 ec] 58 (0, 0))))
  case first =>
    go_region_held3 (fun w' => w'.cell? ⟨PB, 0, none⟩ = some (.slice (some ⟨gb, go, none⟩) gn gc) ∧ w'.cell? ⟨PB, 8, none⟩ = some (.slice (some ⟨b, o, none⟩) N c) ∧ w'.cell? ⟨b, o + a * 9 + 8, none⟩ = some (.int .i64 (j : Int)) ∧ w'.cell? ⟨gb, go + j * 6, none⟩ = some (.string m0) ∧ w'.cell? ⟨gb, go + j * 6 + 1, none⟩ = some (.int .i64 m1) ∧ w'.cell? ⟨gb, go + j * 6 + 2, none⟩ = some (.int .i64 m2) ∧ w'.cell? ⟨gb, go + j * 6 + 3, none⟩ = some (.int .i64 m3) ∧ w'.cell? ⟨gb, go + j * 6 + 4, none⟩ = some (.slice xA m xc) ∧ w'.cell? ⟨gb, go + j * 6 + 5, none⟩ = some (.slice eA m5 ec))
      (first | go_keep)
      (first | fail)
    all_goals
      go_wp2_with fail
      go_meet
      exact ⟨_, rfl, (one_newD w _).1, Nat.le_refl _, (one_newD w _).2⟩
  case rest =>
  obtain ⟨NB, rfl, HN1⟩ := hcut
  generalize wc = w1 at *
  have HB1 := Lib.hid HN1.out.1
  have HNc : Hid (∀ W, Below w1.heap.size w1 W → W.cell? ⟨NB, 4, none⟩ = some (.slice xA m xc)) := fun W hW => below_cell hW (cell_of_row _ _ 4 _ _ _ HN1.out.2.2) (Array.getElem?_eq_some_iff.1 HN1.out.2.2).1
  clear HN1 x0 x8 y8 g0 g1 g2 g3 g4 g5
  go_wp2_with fail
  go_loopw [8] (fun t wr => ∃ k : Nat, k ≤ m ∧ t = .int .i64 k ∧ Hid (R = (ctx.drop k).all (seesOne st.1 st.2 a f)) ∧ Hid (Below w1.heap.size w1 wr)) (fun t _ => m - (intOf t).toNat)
  case atStart => exact ⟨0, Nat.zero_le _, rfl, HR, Below.refl _ _⟩
  case round =>
    clear HR
    obtain ⟨k, hk, rfl, heq, hbel⟩ := hrel
    have q4 := HNc.out wr hbel.out
    have HBr := Lib.hid (bot HB1.out hbel.out)
    have hk0 : (0 : Int) ≤ (k : Int) := by omega
    by_cases hlt : k < m
    case neg =>
      have He : Hid (R = true) := by unfold Hid; rw [heq.out, List.drop_eq_nil_of_le (by have := Hm.out; omega)]; rfl
      have hI : ¬ (k : Int) < (m : Int) := by omega
      clear heq
      go_wp2_with fail
      go_ret
      exact ⟨ret_bool He.out.symm, HBr.out⟩
    have hkn : (k : Int) < (m : Int) := by omega
    obtain ⟨x, hx⟩ : ∃ x, ctx[k]? = some x := ⟨_, List.getElem?_eq_getElem (by have := Hm.out; omega)⟩
    obtain ⟨b', o', cs, hA, _, hb1, ⟨rfl, hlz, _⟩, hcell⟩ := (HX.out.belowSize HBr.out).elem hx
    have HA := Lib.hid hA
    rw [hA] at q4
    clear hA
    have c0 := hcell 0 _ rfl
    simp only [rPin, Nat.add_zero] at c0
    have Hst2 : Hid (R = ((decide (0 ≤ foundS st.2 f x.name) && decide (lookI st.1 (a : Int) x.name = foundS st.2 f x.name)) && (ctx.drop (k + 1)).all (seesOne st.1 st.2 a f))) := by unfold Hid; rw [heq.out, allP_at hx, H1.out]
    have HF1 : Hid (∀ W, Below w.heap.size w W → Calls Tryz.prog 99 #[.pointer (some ⟨PB, 0, none⟩), .int .i64 (f : Int), .string x.name] W fun e w' => e = .returned (.int .i64 (foundS st.2 f x.name)) ∧ Below W.heap.size W w') := fun W hW => HF.out W x.name hW
    have HL1 : Hid (∀ W, Below w.heap.size w W → Calls Tryz.prog 57 #[.agg #[.slice (some ⟨b, o, none⟩) N c], .int .i64 (a : Int), .string x.name] W fun e w' => e = .returned (.int .i64 (lookI st.1 (a : Int) x.name)) ∧ Below W.heap.size W w') := fun W hW => HL.out W x.name hlz hW
    clear hcell hlz heq
    generalize x.name = nm at *
    generalize foundS st.2 f nm = fo at *
    generalize lookI st.1 (a : Int) nm = lk at *
    go_wp2_with fail
    refine (HF1.out wr HBr.out).mono ?_
    rintro e w5 ⟨rfl, hb5⟩
    have HB5 := Lib.hid (bot HBr.out hb5)
    have HB15 := Lib.hid (bot hbel.out hb5)
    have d0 := below_cell hb5 c0 hb1
    have x8 := HX8.out w5 HB5.out
    have q4 := HNc.out w5 HB15.out
    rw [HA.out] at q4
    have HL2 := Lib.hid (qcall (w := w5) (fun W hW => HL1.out W (bot HB5.out hW)))
    have Hbf : Hid (∀ W, Below w5.heap.size w5 W → Below w.heap.size w W ∧ Below w1.heap.size w1 W) := fun W hW => ⟨bot HB5.out hW, bot HB15.out hW⟩
    clear hb5 HF1 HL1 c0 HB5
    go_upto_region 6 with (fail)
    by_cases h1 : 0 ≤ fo
    case neg =>
      have hI : fo < 0 := by omega
      have hId : decide (fo < 0) = true := decide_eq_true hI
      have He : Hid (R = false) := by unfold Hid; rw [Hst2.out, decide_eq_false h1]; rfl
      clear Hst2 h1
      have r_d0 := cell_regrown d0
      have r_x8 := cell_regrown x8
      have r_q4 := cell_regrown q4
      go_wp2_with fail
      refine wp_region_qb (by kernel_rfl) (by kernel_rfl) ?_
      repeat (go_big_quiet_step (first | (with_reducible exact HL2.out _ _)))
      refine wpQuiet_nil ?_
      intro w6 B6
      have HB6 := Lib.hid (Hbf.out _ B6).1
      go_wp2_with fail
      go_ret
      exact ⟨ret_bool He.out.symm, HB6.out⟩
    have hI : ¬ fo < 0 := by omega
    have hId : decide (fo < 0) = false := decide_eq_false hI
    rw [decide_eq_true h1, Bool.true_and] at Hst2
    by_cases h2 : lk = fo
    · have hbn : (lk != fo) = false := by simp [h2]
      have He : Hid (R = (ctx.drop (k + 1)).all (seesOne st.1 st.2 a f)) := by unfold Hid; rw [Hst2.out, decide_eq_true h2]; rfl
      clear Hst2 h2 h1
      have r_d0 := cell_regrown d0
      have r_x8 := cell_regrown x8
      have r_q4 := cell_regrown q4
      go_wp2_with fail
      refine wp_region_qb (by kernel_rfl) (by kernel_rfl) ?_
      repeat (go_big_quiet_step (first | (with_reducible exact HL2.out _ _)))
      refine wpQuiet_nil ?_
      intro w6 B6
      have HB6 := Lib.hid (Hbf.out _ B6).2
      go_wp2_with fail
      go_roundw
      case rel => exact ⟨k + 1, by omega, by go_num, He, HB6⟩
      case measure => simp [intOf]; omega
    · have hbn : (lk != fo) = true := by simp [h2]
      have He : Hid (R = false) := by unfold Hid; rw [Hst2.out, decide_eq_false h2]; rfl
      clear Hst2 h2 h1
      have r_d0 := cell_regrown d0
      have r_x8 := cell_regrown x8
      have r_q4 := cell_regrown q4
      go_wp2_with fail
      refine wp_region_qb (by kernel_rfl) (by kernel_rfl) ?_
      repeat (go_big_quiet_step (first | (with_reducible exact HL2.out _ _)))
      refine wpQuiet_nil ?_
      intro w6 B6
      have HB6 := Lib.hid (Hbf.out _ B6).1
      go_wp2_with fail
      go_ret
      exact ⟨ret_bool He.out.symm, HB6.out⟩
end Go.Proofs.YtminjjdnmpaaoaaGreatDoor
