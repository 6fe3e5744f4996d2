/-
  The program's placer: the edges of a directory: walked.
-/
import Derived.Test.YtminjjdnmpaaoaaGreatDoorPp37
import Derived.Deep.CutRange
import Derived.Deep.RegionLaw
import Derived.Deep.RegionHeld3
set_option autoImplicit false
set_option relaxedAutoImplicit false
set_option linter.unusedVariables false
set_option linter.unusedSimpArgs false
namespace Go.Proofs.YtminjjdnmpaaoaaGreatDoor
open Go.Rows Go.RowKit Go.Shelf Go.Sort

theorem kindP_one {q : PlIn} {n : Node} {e : Edge} (h : (n.ctx.any fun x => decide (x.name = e.label)) = true) : kindP q n e = 1 := by unfold kindP; rw [if_pos h]
theorem kindP_not {q : PlIn} {n : Node} {e : Edge} {tn : Nat} {y : Node} (h : (n.ctx.any fun x => decide (x.name = e.label)) = false) (ht : e.to = (tn : Int)) (hy : q.g[tn]? = some y) : kindP q n e = if y.ctx.length = 0 then 2 else 3 := by
  unfold kindP
  rw [if_neg (by rw [h]; decide), ht, Int.toNat_natCast]
  unfold nodeAt
  rw [List.getD_eq_getElem?_getD, hy]
  rfl
theorem dirP_rest {q : PlIn} {at_ : Nat} {st : PlSt} {d : Dir} (hd : st.1[at_]? = some d) {j : Nat} (hj : d.node = (j : Int)) {n : Node} (hn : q.g[j]? = some n) : dirP q at_ st = match kindGo q at_ n 1 n.edges st with
    | .error c => .error c
    | .ok st' => ownGo q at_ n (restE q n) st' := by
  unfold dirP
  rw [dirAt_of hd, hj, Int.toNat_natCast]
  have : nodeAt q j = n := by unfold nodeAt; rw [List.getD_eq_getElem?_getD, hn]; rfl
  rw [this, kindsGo_own]
  rfl
theorem right_one {q : PlIn} {st : PlSt} {at_ : Nat} {e : Edge} : rightP q st at_ 1 e = (decide (0 ≤ lookI st.1 (at_ : Int) e.label) && decide ((dirAt st.1 (lookI st.1 (at_ : Int) e.label).toNat).node = e.to)) := by
  unfold rightP
  rw [show decide ((1 : Nat) ≠ 3) = true from rfl, Bool.true_or, Bool.and_true]

set_option maxHeartbeats 12800000 in
set_option maxRecDepth 100000 in
theorem directory_any (C : PlCtx) (hC : C.Ok) (w : World) (st : PlSt) (hw : PlWd C w st) {at_ : Nat} (hinv : PlInv C.q at_ [] st) (hm : mayPl C.q.g C.q.ps = true) (hq : C.q.path ≤ 1024) (hqd : C.q.dirs ≤ 256) (hat : at_ < st.1.length) (hsm : ∀ x ∈ C.q.ps, SmallP x) (hst : st.2.length ≤ at_ * 128) :
    Calls Tryz.prog 23 #[.pointer (some ⟨C.P, 0, none⟩), .int .i64 (at_ : Int)] w fun e w' =>
      (∃ c, dirP C.q at_ st = .error c ∧ e = .returned (.int .i64 c) ∧ (c = 33 ∨ c = 40 ∨ c = 41) ∧ Below C.w0.heap.size C.w0 w' ∧ PlFr C w w') ∨ (∃ st', dirP C.q at_ st = .ok st' ∧ e = .returned (.int .i64 0) ∧ PlWd C w' st' ∧ PlFr C w w' ∧ st'.2.length ≤ (at_ + 1) * 128 ∧ PlInv C.q (at_ + 1) [] st') := by
  have hbase := hw.base
  obtain ⟨A, c, A', c', hr⟩ := hw.read
  have HW := Lib.hid hw
  have HC := Lib.hid hC
  have HM := Lib.hid hm
  have Hsm := Lib.hid hsm
  have hHP := hr.hP
  have x0 := hr.c0
  have x7 := hr.c7
  have hNl := hr.len.1
  have hN257 := hinv.len
  have hat257 : at_ ≤ 257 := by have := hinv.len; omega
  obtain ⟨d, hd⟩ : ∃ d, st.1[at_]? = some d := ⟨_, List.getElem?_eq_getElem hat⟩
  obtain ⟨j, hj, hjl⟩ : ∃ j : Nat, d.node = (j : Int) ∧ j < C.q.g.length := by
    have h1 := (may_form hm).1
    by_cases h0 : at_ = 0
    · rw [h0] at hd
      exact ⟨0, (hinv.root d hd).2.1, by omega⟩
    · obtain ⟨h2, h3, _⟩ := hinv.node at_ d hd h0
      exact ⟨d.node.toNat, by omega, by omega⟩
  obtain ⟨n, hn⟩ : ∃ n, C.q.g[j]? = some n := ⟨_, List.getElem?_eq_getElem hjl⟩
  obtain ⟨b, o, pA, pc, hA, hb, y0, y8, hp, _, _⟩ := hr.dir hd
  rw [hj] at y8
  obtain ⟨gb, go, xA, xc, eA, ec, hgA, hgb, hgn, n0, n1, n2, n3, n4, n5, hctx, hedg, hnsz⟩ := hr.node hC hbase hn
  have hgcap := slv_len hC.g
  rw [hgA] at x0
  have hm128 := may_edges hm hn
  have HL : Hid (dirP C.q at_ st = match kindGo C.q at_ n 1 n.edges st with | .error c => .error c | .ok st' => ownGo C.q at_ n (restE C.q n) st') := dirP_rest hd hj hn
  have HDP : Hid (DirP C.q at_ n st 0 st) := DirP.start hinv
  have HEd : Hid (∀ W, Below C.w0.heap.size C.w0 W → SlV rEdge W (fun b => b < C.w0.heap.size) n.edges (.slice eA n.edges.length ec)) := fun W hW => hedg.keep fun b hb _ => (hW.block b hb).trans (hbase.block b hb).symm
  have HCx : Hid (∀ W, Below C.w0.heap.size C.w0 W → SlV rPin W (fun b => b < C.w0.heap.size) n.ctx (.slice xA n.ctx.length xc)) := fun W hW => hctx.keep fun b hb _ => (hW.block b hb).trans (hbase.block b hb).symm
  have HNd : Hid (∀ W (stk : PlSt) (i : Nat) (y : Node), PlWd C W stk → C.q.g[i]? = some y → i < C.gn ∧ W.cell? ⟨C.P, 0, none⟩ = some (.slice (some ⟨gb, go, none⟩) C.gn C.gc) ∧ ∃ yA yc, W.cell? ⟨gb, go + i * 6 + 4, none⟩ = some (.slice yA y.ctx.length yc)) := fun W stk i y hW hy => by
    obtain ⟨A2, c2, A2', c2', hr2⟩ := hW.read
    obtain ⟨b2, o2, yA, yc, _, _, hgA2, _, h3, _, _, _, _, m4, _⟩ := hr2.node hC hW.base hy
    rw [hgA] at hgA2
    cases hgA2
    exact ⟨h3, by rw [← hgA]; exact hr2.c0, yA, yc, m4⟩
  have HlD : Hid (∀ d ∈ st.1, d.path.length ≤ 1024) := fun d hd => Nat.le_trans (path_len (hinv.names d hd).1) (hinv.names d hd).2
  have Hst0 := Lib.hid hst
  have Hnn := Lib.hid hn
  have Hd := Lib.hid hd
  have hm128' : n.edges.length ≤ 128 := hm128
  clear hw hinv hctx hedg hm hsm hm128
  obtain ⟨N, hN⟩ : ∃ N, N = st.1.length := ⟨_, rfl⟩
  rw [← hN] at x7 hat hNl hN257
  have HN := Lib.hid hN
  obtain ⟨m4, hm4⟩ : ∃ k, k = n.ctx.length := ⟨_, rfl⟩
  obtain ⟨m5, hm5⟩ : ∃ k, k = n.edges.length := ⟨_, rfl⟩
  rw [← hm4] at n4 HCx
  rw [← hm5] at n5 HEd hm128'
  have Hm5 := Lib.hid hm5
  clear hm4 hm5 hN hd hn hj hjl
  have hws := hbase.size
  have hj0 : (0 : Int) ≤ (j : Int) := by omega
  have hjI : (j : Int) < (C.gn : Int) := by omega
  have ha0 : (0 : Int) ≤ (at_ : Int) := by omega
  have haI : (at_ : Int) < (N : Int) := by omega
  generalize dirP C.q at_ st = R at *
  obtain ⟨nm, hnm⟩ : ∃ k, k = n.name := ⟨_, rfl⟩
  rw [← hnm] at n0
  clear hnm
  generalize n.ver.major = v1 at *
  generalize n.ver.minor = v2 at *
  generalize n.ver.patch = v3 at *
  subst hA
  go_enter Tryz.func23, Tryz.ntmps23
  have hne1 : C.P ≠ w.heap.size := by omega
  have hne2 : gb ≠ w.heap.size := by omega
  have hne3 : b ≠ w.heap.size := by omega
  go_upto_region 1 with (fail)
  go_cut [5] from 14 to 29 (fun nv wx => ∃ NB : Nat, nv = .pointer (some ⟨NB, 0, none⟩) ∧ Hid (Below w.heap.size w wx ∧ w.heap.size ≤ NB ∧
    wx.heap[NB]? = some (.cells #[.string nm, .int .i64 v1, .int .i64 v2, .int .i64 v3, .slice xA m4 xc, .slice eA m5 ec] 58 (0, 0))))
  case first =>
    go_region_held3 (fun w' => w'.cell? ⟨C.P, 0, none⟩ = some (.slice (some ⟨gb, go, none⟩) C.gn C.gc) ∧ w'.cell? ⟨C.P, 7, none⟩ = some (.slice (some ⟨b, o, none⟩) N c) ∧ w'.cell? ⟨b, o + at_ * 9 + 8, none⟩ = some (.int .i64 (j : Int)) ∧ w'.cell? ⟨gb, go + j * 6, none⟩ = some (.string nm) ∧ w'.cell? ⟨gb, go + j * 6 + 1, none⟩ = some (.int .i64 v1) ∧ w'.cell? ⟨gb, go + j * 6 + 2, none⟩ = some (.int .i64 v2) ∧ w'.cell? ⟨gb, go + j * 6 + 3, none⟩ = some (.int .i64 v3) ∧ w'.cell? ⟨gb, go + j * 6 + 4, none⟩ = some (.slice xA m4 xc) ∧ w'.cell? ⟨gb, go + j * 6 + 5, none⟩ = some (.slice eA m5 ec))
      (first | go_keep)
      (first | fail)
    all_goals
      go_wp2_with fail
      go_meet
      exact ⟨_, rfl, (one_new w _).1, Nat.le_refl _, (one_new w _).2⟩
  case rest =>
  obtain ⟨NB, rfl, HN1⟩ := hcut
  generalize wc = w1 at *
  have HB1 := Lib.hid HN1.out.1
  obtain ⟨S, hS⟩ := (HW.out.keep HC.out HB1.out).s
  have hP1 : C.P < w1.heap.size := Nat.lt_of_lt_of_le hHP HB1.out.size
  have Hw01 : Hid (C.w0.heap.size ≤ w1.heap.size) := Nat.le_trans hws HB1.out.size
  have HNc : Hid (∀ W, PlFr C w1 W → W.cell? ⟨NB, 4, none⟩ = some (.slice xA m4 xc) ∧ W.cell? ⟨NB, 5, none⟩ = some (.slice eA m5 ec)) := fun W hW => by
    obtain ⟨_, _, _, _, _, hpp⟩ := HW.out.parts
    have h := (hW.2 NB (Array.getElem?_eq_some_iff.1 HN1.out.2.2).1 (hpp.notNew HB1.out HN1.out.2.1)).1.trans HN1.out.2.2
    exact ⟨cell_of_row _ _ 4 _ _ _ h, cell_of_row _ _ 5 _ _ _ h⟩
  have HF1 := Lib.hid (PlFr.below hHP HB1.out)
  clear x0 x7 y0 y8 n0 n1 n2 n3 n4 n5 HN1
  have c5 := (HNc.out w1 (PlFr.refl C w1)).2
  have HDL : Hid (DirL C w1 w1 st S (.slice none 0 0) (ofKind C.q n 2 (n.edges.take 0)) (.slice none 0 0) (ofKind C.q n 3 (n.edges.take 0))) := DirL.start hS
  clear hS
  go_wp2_with fail
  go_loopw [6, 7, 33] (fun uA uO t wr => ∃ (k : Nat) (stk : PlSt) (vA vO : Value), k ≤ m5 ∧ t = .int .i64 k ∧ vA = uA ∧ vO = uO ∧ Hid (DirP C.q at_ n st k stk ∧ DirL C w1 wr stk S vA (ofKind C.q n 2 (n.edges.take k)) vO (ofKind C.q n 3 (n.edges.take k)))) (fun _ _ t _ => m5 - (intOf t).toNat)
  case atStart => exact ⟨0, st, _, _, Nat.zero_le _, rfl, rfl, rfl, HDP.out, HDL.out⟩
  case round =>
    clear HDP HDL c5
    obtain ⟨k, stk, vA, vO, hk, rfl, rfl, rfl, hh⟩ := hrel
    have HDp := Lib.hid hh.out.1
    have HDl := Lib.hid hh.out.2
    clear hh
    have hk0 : (0 : Int) ≤ (k : Int) := by omega
    by_cases hlt : k < m5
    case neg =>
      have hke : k = n.edges.length := by have := Hm5.out; omega
      rw [hke] at HDp HDl
      have hI : ¬ (k : Int) < (m5 : Int) := by omega
      have HDr := Lib.hid (HDp.out.rest HM.out Hnn.out Hd.out)
      have HR : Hid (R = ownGo C.q at_ n (restE C.q n) stk) := by unfold Hid; rw [HL.out, HDp.out.done_]
      have Hrl : Hid (ofKind C.q n 2 (n.edges.take n.edges.length) ++ ofKind C.q n 3 (n.edges.take n.edges.length) = restE C.q n) := by
        unfold Hid; rw [List.take_of_length_le (Nat.le_refl _)]; rfl
      have hl2 : (ofKind C.q n 2 (n.edges.take n.edges.length)).length ≤ m5 := by rw [Hm5.out]; exact ofKind_len
      have hl3 : (ofKind C.q n 3 (n.edges.take n.edges.length)).length ≤ m5 := by rw [Hm5.out]; exact ofKind_len
      obtain ⟨L2, hL2⟩ : ∃ L, L = ofKind C.q n 2 (n.edges.take n.edges.length) := ⟨_, rfl⟩
      obtain ⟨L3, hL3⟩ : ∃ L, L = ofKind C.q n 3 (n.edges.take n.edges.length) := ⟨_, rfl⟩
      rw [← hL2] at HDl Hrl hl2
      rw [← hL3] at HDl Hrl hl3
      clear hL2 hL3 hke hlt HDp HL
      obtain ⟨Ao, co, hvO, _, _⟩ := HDl.out.ot.slv.val
      obtain ⟨l3, hl3e⟩ : ∃ l, l = L3.length := ⟨_, rfl⟩
      rw [← hl3e] at hvO hl3
      have Hl3e := Lib.hid hl3e
      subst hvO
      have HLo : Hid (SlV rEdge wr (fun b => (Value.slice Ao l3 co).ownBlock = some b) L3 (.slice Ao l3 co)) := HDl.out.ot.slvO
      have Hao := Lib.hid (fun b (h : (Value.slice Ao l3 co).ownBlock = some b) (e : vA.ownBlock = some b) => HDl.out.ao b e h)
      have hzr : w1.heap.size ≤ wr.heap.size := HDl.out.fr.1
      clear hl3e
      go_wp2_with (at_builtin; refine wpList_extend (by rfl) _ _ _ (by rfl) elt_edgeP Tryz.underlying56 (by rfl) HDl.out.al (fun b => (Value.slice Ao l3 co).ownBlock = some b) L3 Ao l3 co (by rfl) HLo.out Hao.out (by have := Hl3e.out; unfold maxLen; omega) (by have := Hl3e.out; omega) hzr ?_)
      intro v9 w9 hown9 hgrow9 hat9
      have hpv := HDl.out.pushV Hw01.out (v' := v9) (l' := []) (T := fun _ => False) (fun b hb => hb.elim) hgrow9 (fun g hg => by rcases hat9 with h | h; exact .inl (by rw [← h]; exact hg); exact .inr (by rw [h] at hg; cases hg; exact Nat.le_refl _))
      rw [Hrl.out] at hown9
      obtain ⟨A9, c9, hv9, _, _⟩ := hown9.slv.val
      obtain ⟨n7, hn7⟩ : ∃ l, l = (restE C.q n).length := ⟨_, rfl⟩
      rw [← hn7] at hv9
      have Hn7 := Lib.hid hn7
      subst hv9
      have HO9 := Lib.hid (own_edges hown9)
      have HS9 := Lib.hid hpv.1
      have HN9 := Lib.hid hpv.2.1
      have HF9 := Lib.hid (HF1.out.trans hpv.2.2.2.2)
      have hn7z : n7 ≤ 256 := by
        have : (restE C.q n).length = L2.length + L3.length := by rw [← Hrl.out, List.length_append]
        have := Hl3e.out
        omega
      have HRs : Hid (∀ W, PlFr C w9 W → SlV rEdge W (fun b => (Value.slice A9 n7 c9).ownBlock = some b) (restE C.q n) (.slice A9 n7 c9)) := fun W hW => (HO9.out.frame (fun b e => (hW.2 b (HO9.out.lt b e).2 (HN9.out b e).1).1)).slvO
      clear hown9 hgrow9 hat9 hpv hn7 HDl HLo Hao Hrl
      go_wp2_with fail
      go_loopw [98] (fun t wr => ∃ (k : Nat) (sk : PlSt), k ≤ n7 ∧ t = .int .i64 k ∧ Hid (DirR C.q at_ n d (ownGo C.q at_ n (restE C.q n) stk) (st.2.length + n.edges.length) k sk ∧ PlWd C wr sk ∧ PlFr C w9 wr)) (fun t _ => n7 - (intOf t).toNat)
      case atStart => exact ⟨0, stk, Nat.zero_le _, rfl, HDr.out, HS9.out.all, PlFr.refl C w9⟩
      case round =>
        clear HDr HS9 hk0 hI hk
        obtain ⟨k, sk, hk, rfl, hh⟩ := hrel
        have HDr := Lib.hid hh.1
        have HPw := Lib.hid hh.2.1
        have HPf := Lib.hid hh.2.2
        clear hh
        have hk0 : (0 : Int) ≤ (k : Int) := by omega
        by_cases hlt : k < n7
        case neg =>
          have hI : ¬ (k : Int) < (n7 : Int) := by omega
          have hke : k = (restE C.q n).length := by have := Hn7.out; omega
          rw [hke] at HDr
          have HE := Lib.hid HDr.out.done_
          have hlen : sk.2.length ≤ (at_ + 1) * 128 := by
            have h1 := HE.out.2.1
            have h2 := Hst0.out
            have h3 := Hm5.out
            omega
          have HFz := Lib.hid (HF9.out.trans HPf.out)
          clear hke HDr
          go_wp2_with fail
          go_ret
          exact .inr ⟨sk.1, sk.2, HR.out.trans HE.out.1, rfl, HPw.out, HFz.out, hlen, HE.out.2.2⟩
        have hkn : (k : Int) < (n7 : Int) := by omega
        obtain ⟨e, he⟩ : ∃ e, (restE C.q n)[k]? = some e := ⟨_, List.getElem?_eq_getElem (by have := Hn7.out; omega)⟩
        obtain ⟨eb, eo, cs, hA, _, hb1, hhd, hcell⟩ := (HRs.out wr HPf.out).elem he
        subst hA
        obtain ⟨rfl, hlz, hti⟩ := hhd
        have c0 := hcell 0 _ rfl
        have c1 := hcell 1 _ rfl
        simp only [rEdge, Nat.add_zero] at c0 c1
        obtain ⟨hmem, hk2⟩ := restE_mem (List.mem_of_getElem? he)
        obtain ⟨e1, e2, e3, _⟩ := may_edge HM.out Hnn.out hmem
        obtain ⟨lb, tt⟩ := e
        simp only at c0 c1 hlz hti e1 e2 e3
        obtain ⟨tn, rfl⟩ : ∃ tn : Nat, tt = (tn : Int) := ⟨tt.toNat, by omega⟩
        obtain ⟨y, hy⟩ : ∃ y, C.q.g[tn]? = some y := ⟨_, List.getElem?_eq_getElem (by omega)⟩
        obtain ⟨x, hx⟩ : ∃ x, C.q.ps[tn]? = some x := by
          obtain ⟨_, _, h3, _⟩ := may_form HM.out
          exact ⟨_, List.getElem?_eq_getElem (by have := (List.getElem?_eq_some_iff.1 hy).1; omega)⟩
        have hyn : y.name = lb := by
          rw [← e3, Int.toNat_natCast]; unfold nodeAt; rw [List.getD_eq_getElem?_getD, hy]; rfl
        have hkind : kindP C.q n ⟨lb, (tn : Int)⟩ = 2 ∧ y.ctx.length = 0 ∨ kindP C.q n ⟨lb, (tn : Int)⟩ = 3 ∧ y.ctx.length ≠ 0 := by
          cases hany : (n.ctx.any fun x => decide (x.name = lb)) with
          | true => have := kindP_one (q := C.q) (n := n) (e := ⟨lb, (tn : Int)⟩) hany; omega
          | false =>
            have := kindP_not (q := C.q) (n := n) (e := ⟨lb, (tn : Int)⟩) hany rfl hy
            by_cases h0 : y.ctx.length = 0
            · rw [if_pos h0] at this; exact .inl ⟨this, h0⟩
            · rw [if_neg h0] at this; exact .inr ⟨this, h0⟩
        obtain ⟨done, i1, i2⟩ := HDr.out.inv
        obtain ⟨_, hsd, _⟩ := rest_step (may_labels HM.out Hnn.out) i2 he
        have hskl : sk.2.length ≤ 900000 := by
          have h1 := HDr.out.len
          have h2 := Hst0.out
          have h3 := Hm5.out
          have h4 := Hn7.out
          omega
        have Hcall : Hid (∀ W, Below wr.heap.size wr W → _) := fun W hW => own_any C HC.out W sk (HPw.out.keep HC.out hW) i1 HDr.out.dir lb tn hsd hlz hy hyn hx (Hsm.out x (List.mem_of_getElem? hx)) hskl (kindP C.q n ⟨lb, (tn : Int)⟩) hkind
        have HSt := Lib.hid (HDr.out.step HM.out hq hqd Hnn.out he)
        have HFo : Hid (∀ W, PlFr C wr W → PlFr C w W ∧ PlFr C w9 W) := fun W hW => ⟨HF9.out.trans (HPf.out.trans hW), HPf.out.trans hW⟩
        have hPr : C.P < wr.heap.size := by
          obtain ⟨_, _, _, _, h⟩ := HPw.out.read
          exact h.hP
        clear hcell he hy hx hyn hkind i1 i2 hsd hmem hk2 e1 e2 e3 hlz hti HDr HPf
        go_upto_region 18 with (fail)
        obtain ⟨w4, hw4⟩ : ∃ w4, w4 = wr.alloc (.cells #[.string lb, .int .i64 (tn : Int)] 61) := ⟨_, rfl⟩
        have hq4 : w4.heap[wr.heap.size]? = some (.cells #[.string lb, .int .i64 (tn : Int)] 61 (0, 0)) := by rw [hw4]; exact heap_new _ _
        have HB4 : Hid (Below wr.heap.size wr w4) := by unfold Hid; rw [hw4]; exact bal (Below.refl _ _) _
        rw [← hw4]
        obtain ⟨QB, hQB⟩ : ∃ QB, QB = wr.heap.size := ⟨_, rfl⟩
        rw [← hQB] at hq4 ⊢
        have d0 := cell_of_row _ _ 0 _ _ _ hq4
        have d1 := cell_of_row _ _ 1 _ _ _ hq4
        have Hc4 := Lib.hid (Hcall.out w4 HB4.out)
        have HF4 := Lib.hid (PlFr.below hPr HB4.out)
        clear hw4 hQB hq4 c0 c1 Hcall
        generalize stepE C.q at_ (kindP C.q n ⟨lb, (tn : Int)⟩) ⟨lb, (tn : Int)⟩ sk = SE at *
        go_wp2_with fail
        refine Hc4.out.mono ?_
        rintro e w5 (⟨c, h1, rfl, hc, hP5, hF5⟩ | ⟨st', h1, rfl, hP5, hF5⟩)
        · have Hr := Lib.hid (HR.out.trans (HSt.out.1 c h1))
          have HE5 := Lib.hid (HFo.out w5 (HF4.out.trans hF5)).1
          have HB5 := Lib.hid hP5.base
          clear h1 hP5 hF5 HSt d0 d1 Hc4
          rcases hc with rfl | rfl
          · go_wp2_with fail
            go_ret
            exact .inl ⟨40, Hr.out, rfl, .inr (.inl rfl), HB5.out, HE5.out⟩
          · go_wp2_with fail
            go_ret
            exact .inl ⟨41, Hr.out, rfl, .inr (.inr rfl), HB5.out, HE5.out⟩
        · have Hs := Lib.hid (HSt.out.2 st' h1)
          have HE5 := Lib.hid (HFo.out w5 (HF4.out.trans hF5)).2
          have HP5 := Lib.hid hP5
          clear h1 hP5 hF5 HSt d0 d1 Hc4
          go_wp2_with fail
          go_roundw
          case rel => exact ⟨k + 1, st', by omega, by go_num, Hs.out, HP5.out, HE5.out⟩
          case measure => simp [intOf]; omega
    case pos =>
    have hkn : (k : Int) < (m5 : Int) := by omega
    obtain ⟨e, he⟩ : ∃ e, n.edges[k]? = some e := ⟨_, List.getElem?_eq_getElem (by have := Hm5.out; omega)⟩
    have HPW := Lib.hid HDl.out.pl.all
    obtain ⟨eb, eo, cs, hA, _, hb1, hhd, hcell⟩ := (HEd.out wr HPW.out.base).elem he
    subst hA
    obtain ⟨rfl, hlz, hti⟩ := hhd
    have c0 := hcell 0 _ rfl
    have c1 := hcell 1 _ rfl
    simp only [rEdge, Nat.add_zero] at c0 c1
    obtain ⟨e1, e2, _⟩ := may_edge HM.out Hnn.out (List.mem_of_getElem? he)
    obtain ⟨lb, tt⟩ := e
    simp only at c0 c1 hlz hti e1 e2
    obtain ⟨tn, rfl⟩ : ∃ tn : Nat, tt = (tn : Int) := ⟨tt.toNat, by omega⟩
    obtain ⟨y, hy⟩ : ∃ y, C.q.g[tn]? = some y := ⟨_, List.getElem?_eq_getElem (by omega)⟩
    have He := Lib.hid he
    have Hy := Lib.hid hy
    have Hlz := Lib.hid hlz
    have Hti := Lib.hid hti
    clear hcell he hy e1 e2 hlz hti
    go_upto_region 7 with (fail)
    obtain ⟨w4, hw4⟩ : ∃ w4, w4 = wr.alloc (.cells #[.string lb, .int .i64 (tn : Int)] 61) := ⟨_, rfl⟩
    have hq4 : w4.heap[wr.heap.size]? = some (.cells #[.string lb, .int .i64 (tn : Int)] 61 (0, 0)) := by rw [hw4]; exact heap_new _ _
    have HB4 : Hid (Below wr.heap.size wr w4) := by unfold Hid; rw [hw4]; exact bal (Below.refl _ _) _
    rw [← hw4]
    have HDl4 := Lib.hid (HDl.out.keep HB4.out)
    have hz4 : wr.heap.size < w4.heap.size := (Array.getElem?_eq_some_iff.1 hq4).1
    obtain ⟨QB, hQB⟩ : ∃ QB, QB = wr.heap.size := ⟨_, rfl⟩
    rw [← hQB] at hq4 hz4 ⊢
    have HQc : Hid (∀ W, Below w4.heap.size w4 W → W.cell? ⟨QB, 0, none⟩ = some (.string lb) ∧ W.cell? ⟨QB, 1, none⟩ = some (.int .i64 (tn : Int))) := fun W hW => by
      have h := (hW.block _ hz4).trans hq4
      exact ⟨cell_of_row _ _ 0 _ _ _ h, cell_of_row _ _ 1 _ _ _ h⟩
    have HCt : Hid (Calls Tryz.prog 47 #[.slice xA m4 xc, .func (.func 48) #[] #[.pointer (some ⟨QB, 0, none⟩)]] w4 fun e w' => e = .returned (.bool (n.ctx.any fun x => decide (x.name = lb))) ∧ Below w4.heap.size w4 w') :=
      containsPin_any 48 #[.pointer (some ⟨QB, 0, none⟩)] enters_dir1 (fun x => decide (x.name = lb)) xA m4 xc n.ctx w4 _ (HCx.out w4 HDl4.out.pl.all.base) (fun W x hW => dir1_any x QB lb W (HQc.out W hW).1)
    have Hk1 : Hid ((n.ctx.any fun x => decide (x.name = lb)) = true → kindP C.q n ⟨lb, (tn : Int)⟩ = 1) := fun h => kindP_one h
    have Hk2 : Hid ((n.ctx.any fun x => decide (x.name = lb)) = false → kindP C.q n ⟨lb, (tn : Int)⟩ = if y.ctx.length = 0 then 2 else 3) := fun h => kindP_not h rfl Hy.out
    obtain ⟨q4, q5⟩ := HNc.out w4 HDl4.out.fr
    clear hw4 hQB hq4 c0 c1
    generalize (n.ctx.any fun x => decide (x.name = lb)) = isx at *
    go_wp2_with fail
    refine HCt.out.mono ?_
    rintro e w5 ⟨rfl, hb5⟩
    have HB5 := Lib.hid hb5
    have HDl5 := Lib.hid (HDl4.out.keep hb5)
    have hP5 : C.P < w5.heap.size := by
      obtain ⟨_, _, _, _, h⟩ := HDl5.out.pl
      exact h.hP
    clear hb5 q4 q5 HCt
    cases isx with
    | false =>
      have hkd := Lib.hid (Hk2.out rfl)
      obtain ⟨htg, x0, yA, yc, y4⟩ := HNd.out w5 stk tn y HDl5.out.pl.all Hy.out
      have q1 := (HQc.out w5 HB5.out).2
      have ht0 : (0 : Int) ≤ (tn : Int) := by omega
      have htI : (tn : Int) < (C.gn : Int) := by omega
      have hgb5 : gb < w5.heap.size := Nat.lt_of_lt_of_le hgb HDl5.out.pl.all.base.size
      have hQ5 : QB < w5.heap.size := Nat.lt_of_lt_of_le hz4 HB5.out.size
      obtain ⟨ly, hly⟩ : ∃ ly, ly = y.ctx.length := ⟨_, rfl⟩
      rw [← hly] at y4 hkd
      clear hly Hk1 Hk2
      have Hl2 : Hid ((ofKind C.q n 2 (n.edges.take k)).length ≤ k) := ofKind_len
      have Hl3 : Hid ((ofKind C.q n 3 (n.edges.take k)).length ≤ k) := ofKind_len
      have HT : Hid (∀ kind, ofKind C.q n kind (n.edges.take (k + 1)) = ofKind C.q n kind (n.edges.take k) ++ if kindP C.q n ⟨lb, (tn : Int)⟩ = kind then [⟨lb, (tn : Int)⟩] else []) := fun kind => ofKind_take He.out
      by_cases hy0 : ly = 0
      case pos =>
        have hb : ((ly : Int) == 0) = true := by rw [hy0]; rfl
        have hkk := Lib.hid (hkd.out.trans (if_pos hy0))
        have hDp' := Lib.hid (HDp.out.other He.out (by rw [hkk.out]; decide))
        have hT2 := Lib.hid ((HT.out 2).trans (congrArg (ofKind C.q n 2 (n.edges.take k) ++ ·) (if_pos hkk.out)))
        have hT3 := Lib.hid ((HT.out 3).trans ((congrArg (ofKind C.q n 3 (n.edges.take k) ++ ·) (if_neg (by rw [hkk.out]; decide))).trans (List.append_nil _)))
        clear hkd hy0 hkk HT HDp
        have r_x0 := cell_regrown x0
        have r_q1 := cell_regrown q1
        have r_y4 := cell_regrown y4
        go_wp2_with fail
        refine wp_region_qb (by kernel_rfl) (by kernel_rfl) ?_
        repeat (go_big_quiet_step (first | fail))
        refine wpQuiet_nil ?_
        intro w6 B6
        have HB46 := Lib.hid (bot HB5.out B6)
        have HDl6 := Lib.hid (HDl5.out.keep B6)
        clear r_x0 r_q1 r_y4 x0 q1 y4 B6
        obtain ⟨q0, q1⟩ := HQc.out w6 HB46.out
        obtain ⟨w7, hw7⟩ : ∃ w7, w7 = w6.alloc (.cells #[.string lb, .int .i64 (tn : Int)] 61) := ⟨_, rfl⟩
        have HDl7 : Hid (DirL C w1 w7 stk S vA (ofKind C.q n 2 (n.edges.take k)) vO (ofKind C.q n 3 (n.edges.take k))) := by unfold Hid; rw [hw7]; exact HDl6.out.keep (bal (Below.refl _ _) _)
        have Hs7 : Hid (w7.heap.size = w6.heap.size + 1) := by unfold Hid; rw [hw7]; simp
        have hnews := news_of w6 #[.string lb, .int .i64 (tn : Int)] 61
        rw [← hw7] at hnews
        have Hnews := Lib.hid hnews
        have hbase7 : w1.heap.size ≤ w7.heap.size := HDl7.out.fr.1
        clear hnews
        go_wp2_with (at_builtin; rw [← hw7]; refine wpList_push (by rfl) _ _ _ (by rfl) elt_edgeP Tryz.underlying56 (by rfl) HDl7.out.al ⟨w6.heap.size, 0, none⟩ 1 [.string lb, .int .i64 (tn : Int)] ⟨lb, (tn : Int)⟩ (by rfl) ⟨rfl, Hlz.out, Hti.out⟩ Hnews.out (by have := Hl2.out; unfold maxLen; omega) (by have := Hl2.out; omega) hbase7 (w6.heap.size + 1) Hs7.out ?_)
        intro g9 cap9 w9 hown9 hgrow9 hat9 hlt9
        rw [← hw7] at hgrow9
        have hend := HDl7.out.push Hw01.out hown9 hgrow9 (by rcases hat9 with h | h; exact .inl h; exact .inr (by rw [Hs7.out, h]; exact Nat.le_refl _))
        have Hend := Lib.hid hend
        clear hend hown9 hgrow9 hat9 hw7 q0 q1
        go_wp2_with fail
        go_roundw
        case rel => exact ⟨k + 1, stk, _, _, by omega, by go_num, rfl, rfl, hDp'.out, by rw [hT2.out, hT3.out]; exact Hend.out⟩
        case measure => simp [intOf]; omega
      case neg =>
        have hb : ((ly : Int) == 0) = false := beq_eq_false_iff_ne.2 (by omega)
        have hkk := Lib.hid (hkd.out.trans (if_neg hy0))
        have hDp' := Lib.hid (HDp.out.other He.out (by rw [hkk.out]; decide))
        have hT3 := Lib.hid ((HT.out 3).trans (congrArg (ofKind C.q n 3 (n.edges.take k) ++ ·) (if_pos hkk.out)))
        have hT2 := Lib.hid ((HT.out 2).trans ((congrArg (ofKind C.q n 2 (n.edges.take k) ++ ·) (if_neg (by rw [hkk.out]; decide))).trans (List.append_nil _)))
        clear hkd hy0 hkk HT HDp
        have r_x0 := cell_regrown x0
        have r_q1 := cell_regrown q1
        have r_y4 := cell_regrown y4
        go_wp2_with fail
        refine wp_region_qb (by kernel_rfl) (by kernel_rfl) ?_
        repeat (go_big_quiet_step (first | fail))
        refine wpQuiet_nil ?_
        intro w6 B6
        have HB46 := Lib.hid (bot HB5.out B6)
        have HDl6 := Lib.hid (HDl5.out.keep B6)
        clear r_x0 r_q1 r_y4 x0 q1 y4 B6
        obtain ⟨q0, q1⟩ := HQc.out w6 HB46.out
        obtain ⟨w7, hw7⟩ : ∃ w7, w7 = w6.alloc (.cells #[.string lb, .int .i64 (tn : Int)] 61) := ⟨_, rfl⟩
        have HDl7 : Hid (DirL C w1 w7 stk S vA (ofKind C.q n 2 (n.edges.take k)) vO (ofKind C.q n 3 (n.edges.take k))) := by unfold Hid; rw [hw7]; exact HDl6.out.keep (bal (Below.refl _ _) _)
        have Hs7 : Hid (w7.heap.size = w6.heap.size + 1) := by unfold Hid; rw [hw7]; simp
        have hnews := news_of w6 #[.string lb, .int .i64 (tn : Int)] 61
        rw [← hw7] at hnews
        have Hnews := Lib.hid hnews
        have hbase7 : w1.heap.size ≤ w7.heap.size := HDl7.out.fr.1
        clear hnews
        go_wp2_with (at_builtin; rw [← hw7]; refine wpList_push (by rfl) _ _ _ (by rfl) elt_edgeP Tryz.underlying56 (by rfl) HDl7.out.ot ⟨w6.heap.size, 0, none⟩ 1 [.string lb, .int .i64 (tn : Int)] ⟨lb, (tn : Int)⟩ (by rfl) ⟨rfl, Hlz.out, Hti.out⟩ Hnews.out (by have := Hl3.out; unfold maxLen; omega) (by have := Hl3.out; omega) hbase7 (w6.heap.size + 1) Hs7.out ?_)
        intro g9 cap9 w9 hown9 hgrow9 hat9 hlt9
        rw [← hw7] at hgrow9
        have hend := (HDl7.out.swap.push Hw01.out hown9 hgrow9 (by rcases hat9 with h | h; exact .inl h; exact .inr (by rw [Hs7.out, h]; exact Nat.le_refl _))).swap
        have Hend := Lib.hid hend
        clear hend hown9 hgrow9 hat9 hw7 q0 q1
        go_wp2_with fail
        go_roundw
        case rel => exact ⟨k + 1, stk, _, _, by omega, by go_num, rfl, rfl, hDp'.out, by rw [hT2.out, hT3.out]; exact Hend.out⟩
        case measure => simp [intOf]; omega
    | true =>
      have hk1 := Lib.hid (Hk1.out rfl)
      obtain ⟨s2, hs2⟩ : ∃ s2, stk = (st.1, s2) := ⟨stk.2, by rw [← HDp.out.fst]⟩
      subst hs2
      obtain ⟨A2, c2, A2', c2', hr2⟩ := HDl5.out.pl.all.read
      have hx7 := hr2.c7
      have x7 : w5.cell? ⟨C.P, 7, none⟩ = some (.slice A2 N c2) := by rw [HN.out]; exact hx7
      have HLk : Hid (∀ W, Below w5.heap.size w5 W → Calls Tryz.prog 17 #[.agg #[.slice A2 st.1.length c2], .int .i64 (at_ : Int), .string lb] W fun e w' => e = .returned (.int .i64 (lookI st.1 (at_ : Int) lb)) ∧ Below W.heap.size W w') := fun W hW => look_any A2 _ c2 st.1 lb W _ _ Hlz.out (fun d hd => by have := HlD.out d hd; omega) (hr2.dirs.belowSize hW)
      rw [← HN.out] at HLk
      have HDn : Hid (∀ W (j : Nat), Below w5.heap.size w5 W → j < N → ∃ b o : Nat, A2 = some ⟨b, o, none⟩ ∧ W.cell? ⟨b, o + j * 9 + 8, none⟩ = some (.int .i64 (dirAt st.1 j).node)) := fun W j hW hj => by
        obtain ⟨b, o, _, _, h1, _, _, h2, _⟩ := (hr2.keep hW).dir (i := j) (d := dirAt st.1 j) (dirAt_some (by rw [← HN.out]; exact hj))
        exact ⟨b, o, h1, h2⟩
      have Hx7 : Hid (∀ W, Below w5.heap.size w5 W → W.cell? ⟨C.P, 7, none⟩ = some (.slice A2 N c2)) := fun W hW => below_cell hW x7 hP5
      have Hrt : Hid (rightP C.q (st.1, s2) at_ 1 ⟨lb, (tn : Int)⟩ = (decide (0 ≤ lookI st.1 (at_ : Int) lb) && decide ((dirAt st.1 (lookI st.1 (at_ : Int) lb).toNat).node = (tn : Int)))) := right_one
      have HBad : Hid (rightP C.q (st.1, s2) at_ 1 ⟨lb, (tn : Int)⟩ = false → R = .error 33) := fun h => by rw [HL.out, HDp.out.bad He.out hk1.out h]
      have HOne : Hid (rightP C.q (st.1, s2) at_ 1 ⟨lb, (tn : Int)⟩ = true → DirP C.q at_ n st (k + 1) (st.1, s2 ++ [⟨at_, lb, (lookI st.1 (at_ : Int) lb).toNat⟩]) ∧ ofKind C.q n 2 (n.edges.take (k + 1)) = ofKind C.q n 2 (n.edges.take k) ∧ ofKind C.q n 3 (n.edges.take (k + 1)) = ofKind C.q n 3 (n.edges.take k)) := fun h => HDp.out.one HM.out hq hqd Hd.out Hnn.out He.out hk1.out h
      have Hlt : Hid (0 ≤ lookI st.1 (at_ : Int) lb → (lookI st.1 (at_ : Int) lb).toNat < st.1.length) := look_lt
      rw [← HN.out] at Hlt
      have hs2l : s2.length ≤ 1000000 := by
        have h1 := HDp.out.len
        have h2 := Hst0.out
        simp only at h1
        omega
      have q0 := (HQc.out w5 HB5.out).1
      have hQ5 : QB < w5.heap.size := Nat.lt_of_lt_of_le hz4 HB5.out.size
      have HLq := Lib.hid (qcall (w := w5) (fun W hW => HLk.out W hW))
      clear hr2 hx7 HLk Hk1 Hk2 hk1 HDp HDl HDl4
      generalize rightP C.q (st.1, s2) at_ 1 ⟨lb, (tn : Int)⟩ = rt at *
      generalize lookI st.1 (at_ : Int) lb = L at *
      go_upto_region 8 with (fail)
      have r_x7 := cell_regrown x7
      have r_q0 := cell_regrown q0
      go_wp2_with fail
      refine wp_region_qb (by kernel_rfl) (by kernel_rfl) ?_
      repeat (go_big_quiet_step (first | (with_reducible exact HLq.out _ _)))
      refine wpQuiet_nil ?_
      intro w6 B6
      have HB6 := Lib.hid B6
      have HDl6 := Lib.hid (HDl5.out.keep B6)
      clear r_x7 r_q0 x7 q0 B6 HLq
      have x7 := Hx7.out w6 HB6.out
      obtain ⟨q0, q1⟩ := HQc.out w6 (bot HB5.out HB6.out)
      have HEnd : Hid (∀ W, Below w6.heap.size w6 W → Below C.w0.heap.size C.w0 W ∧ PlFr C w W) := fun W hW => by
        have h := HDl6.out.keep hW
        exact ⟨h.pl.all.base, HF1.out.trans h.fr⟩
      go_upto_region 9 with (fail)
      by_cases hL : 0 ≤ L
      case neg =>
        have hr : rt = false := by rw [Hrt.out, decide_eq_false hL]; rfl
        have hLd : decide (L < 0) = true := decide_eq_true (by omega)
        have hLI : L < 0 := by omega
        have Hr := Lib.hid (HBad.out hr)
        clear hL Hrt hr HBad HOne Hlt
        have r_x7 := cell_regrown x7
        have r_q1 := cell_regrown q1
        go_wp2_with fail
        refine wp_region_qb (by kernel_rfl) (by kernel_rfl) ?_
        repeat (go_big_quiet_step (first | fail))
        refine wpQuiet_nil ?_
        intro w7 B7
        have HB7 := Lib.hid (HEnd.out w7 B7)
        go_wp2_with fail
        go_ret
        exact .inl ⟨33, Hr.out, rfl, .inl rfl, HB7.out.1, HB7.out.2⟩
      obtain ⟨jl, hjl⟩ : ∃ jl : Nat, L = (jl : Int) := ⟨L.toNat, by omega⟩
      subst hjl
      have hjN : jl < N := by have := Hlt.out hL; rwa [Int.toNat_natCast] at this
      obtain ⟨b2, o2, hA2, y8⟩ := HDn.out w6 jl HB6.out hjN
      subst hA2
      have hLd : decide ((jl : Int) < 0) = false := decide_eq_false (by omega)
      have hLI : ¬ (jl : Int) < 0 := by omega
      have hjI2 : (jl : Int) < (N : Int) := by omega
      rw [Int.toNat_natCast, decide_eq_true hL, Bool.true_and] at Hrt
      rw [Int.toNat_natCast] at HOne
      generalize (dirAt st.1 jl).node = nj at *
      by_cases hnj : nj = (tn : Int)
      case neg =>
        have hr : rt = false := by rw [Hrt.out, decide_eq_false hnj]
        have hb1 : (nj != (tn : Int)) = true := by show (!(nj == (tn : Int))) = true; rw [beq_eq_false_iff_ne.2 hnj]; rfl
        have Hr := Lib.hid (HBad.out hr)
        clear Hrt hr HBad HOne Hlt hnj
        have r_x7 := cell_regrown x7
        have r_q1 := cell_regrown q1
        have r_y8 := cell_regrown y8
        go_wp2_with fail
        refine wp_region_qb (by kernel_rfl) (by kernel_rfl) ?_
        repeat (go_big_quiet_step (first | fail))
        refine wpQuiet_nil ?_
        intro w7 B7
        have HB7 := Lib.hid (HEnd.out w7 B7)
        go_wp2_with fail
        go_ret
        exact .inl ⟨33, Hr.out, rfl, .inl rfl, HB7.out.1, HB7.out.2⟩
      have hr : rt = true := by rw [Hrt.out, decide_eq_true hnj]
      have hb1 : (nj != (tn : Int)) = false := by show (!(nj == (tn : Int))) = false; rw [hnj, beq_self_eq_true]; rfl
      have Ho := Lib.hid (HOne.out hr)
      clear Hrt hr HBad HOne Hlt hnj
      have r_x7 := cell_regrown x7
      have r_q1 := cell_regrown q1
      have r_y8 := cell_regrown y8
      go_wp2_with fail
      refine wp_region_qb (by kernel_rfl) (by kernel_rfl) ?_
      repeat (go_big_quiet_step (first | fail))
      refine wpQuiet_nil ?_
      intro w7 B7
      have HDl7 := Lib.hid (HDl6.out.keep B7)
      have q0 := below_cell B7 q0 (Nat.lt_of_lt_of_le hQ5 HB6.out.size)
      clear r_x7 r_q1 r_y8 x7 q1 y8 B7
      have Hs := Lib.hid (settleS_any C HC.out w7 (st.1, s2) S HDl7.out.pl at_ jl (by omega) (by omega) lb Hlz.out hs2l)
      go_wp2_with fail
      refine Hs.out.mono ?_
      rintro e w8 ⟨rfl, hP8, hF8⟩
      have Hend := Lib.hid (HDl7.out.settle hP8 hF8)
      clear hP8 hF8 Hs q0
      go_wp2_with fail
      go_roundw
      case rel => exact ⟨k + 1, _, _, _, by omega, by go_num, rfl, rfl, Ho.out.1, by rw [Ho.out.2.1, Ho.out.2.2]; exact Hend.out⟩
      case measure => simp [intOf]; omega
end Go.Proofs.YtminjjdnmpaaoaaGreatDoor
