/-
  The program's placer: is a directory in another one; would a directory turn what is settled.
  The program's placer: does a directory see what its node has in its context as another one does.
  The program's placer: where a directory is put.
-/
import Derived.Test.YtminjjdnmpaaoaaGreatDoorPp22
import Derived.Test.YtminjjdnmpaaoaaGreatDoorPp07
import Derived.Deep.CutRange
import Derived.Test.YtminjjdnmpaaoaaGreatDoorPp18
import Derived.Test.YtminjjdnmpaaoaaGreatDoorPp12
set_option autoImplicit false
set_option relaxedAutoImplicit false
set_option linter.unusedVariables false
set_option linter.unusedSimpArgs false
namespace Go.Proofs.YtminjjdnmpaaoaaGreatDoor
open Go.Rows Go.RowKit Go.Shelf Go.Sort

/-- a directory's cells -/
theorem PlRd.dir {C : PlCtx} {w : World} {st : PlSt} {A : Option Addr} {c : Nat} {A' : Option Addr} {c' : Nat} (h : PlRd C w st A c A' c') {i : Nat} {d : Dir} (hi : st.1[i]? = some d) :
    ∃ (b o : Nat) (pA : Option Addr) (pc : Nat), A = some ⟨b, o, none⟩ ∧ b < w.heap.size ∧ w.cell? ⟨b, o + i * 9, none⟩ = some (.slice pA d.path.length pc) ∧ w.cell? ⟨b, o + i * 9 + 8, none⟩ = some (.int .i64 d.node) ∧ SlV rStr w (fun _ => True) d.path (.slice pA d.path.length pc) ∧ d.path.length ≤ pc ∧ pc ≤ maxLen := by
  obtain ⟨b, o, cs, hA, _, hb, hh, hcell⟩ := h.dirs.elem hi
  obtain ⟨s0, s1, s2, s3, rfl, hp, _, _, _, _, _, _, _, _⟩ := hh
  obtain ⟨pA, pc, rfl, h1, h2⟩ := hp.val
  have c0 := hcell 0 _ rfl
  have c8 := hcell 8 _ rfl
  simp only [rDir, Nat.add_zero] at c0 c8
  exact ⟨b, o, pA, pc, hA, hb, c0, c8, hp, h1, h2⟩
theorem PlRd.len {C : PlCtx} {w : World} {st : PlSt} {A : Option Addr} {c : Nat} {A' : Option Addr} {c' : Nat} (h : PlRd C w st A c A' c') : st.1.length ≤ 9223372036854775807 ∧ st.2.length ≤ 9223372036854775807 := by
  have h1 := h.dirs.cap_le
  have h2 := h.stls.cap_le
  obtain ⟨_, _, e1, h3, _⟩ := h.dirs.val
  obtain ⟨_, _, e2, h4, _⟩ := h.stls.val
  simp only [Value.slice.injEq] at e1 e2
  unfold maxLen at h1 h2
  omega

set_option maxHeartbeats 3200000 in
set_option maxRecDepth 100000 in
theorem under_any (C : PlCtx) (w : World) (st : PlSt) (hw : PlWd C w st) (a h : Nat) (ha : a < st.1.length) (hh : h < st.1.length) :
    Calls Tryz.prog 157 #[.pointer (some ⟨C.P, 0, none⟩), .int .i64 (a : Int), .int .i64 (h : Int)] w fun e w' => e = .returned (.bool (underP (pathAt st.1 a) (pathAt st.1 h))) ∧ Below w.heap.size w w' := by
  obtain ⟨A, c, A', c', hr⟩ := hw.read
  have hlen := hr.len.1
  have x7 := hr.c7
  obtain ⟨b, o, pA, pc, hA, hb, y0, _, hp, hpl, hpm⟩ := hr.dir (dirAt_some ha)
  obtain ⟨b2, o2, qA, qc, hA2, _, z0, _, hq, hql, hqm⟩ := hr.dir (dirAt_some hh)
  rw [hA] at hA2
  injection hA2 with hA2
  injection hA2 with hb2 ho2 _
  subst hb2 ho2 hA
  have hPz := hr.hP
  unfold maxLen at hpm hqm
  show Calls _ _ _ _ fun e w' => e = .returned (.bool (underP (dirAt st.1 a).path (dirAt st.1 h).path)) ∧ _
  generalize (dirAt st.1 a).path = pa at *
  generalize (dirAt st.1 h).path = ph at *
  have HR : Hid (underP pa ph = (decide (ph.length ≤ pa.length) && eqB (pa.take ph.length) ph)) := rfl
  generalize underP pa ph = R at *
  obtain ⟨n, hn⟩ : ∃ n, n = st.1.length := ⟨_, rfl⟩
  obtain ⟨la, hla⟩ : ∃ n, n = pa.length := ⟨_, rfl⟩
  obtain ⟨lh, hlh⟩ : ∃ n, n = ph.length := ⟨_, rfl⟩
  rw [← hn] at x7 ha hh hlen
  rw [← hla] at y0 hp HR hpl
  rw [← hlh] at z0 hq HR hql
  have HP := Lib.hid hp
  have HQ := Lib.hid hq
  have Hla := Lib.hid hla
  have Hlh := Lib.hid hlh
  clear hr hw hn hp hq hla hlh
  generalize C.P = PB at *
  have ha0 : (0 : Int) ≤ (a : Int) := by omega
  have hh0 : (0 : Int) ≤ (h : Int) := by omega
  have han : (a : Int) < (n : Int) := by omega
  have hhn : (h : Int) < (n : Int) := by omega
  go_enter Tryz.func157, Tryz.ntmps157
  have r_x7 := cell_regrown x7
  have r_y0 := cell_regrown y0
  have r_z0 := cell_regrown z0
  go_wp2_with fail
  refine wp_region_qb (by kernel_rfl) (by kernel_rfl) ?_
  repeat (go_big_quiet_step (first | fail))
  refine wpQuiet_nil ?_
  intro w1 B1
  clear r_x7 r_y0 r_z0 x7 y0 z0
  have HB1 := Lib.hid B1
  clear B1
  by_cases hle : lh ≤ la
  · have hI : (lh : Int) ≤ (la : Int) := by omega
    have hlh0 : (0 : Int) ≤ (lh : Int) := by omega
    have hlc : lh ≤ pc := by omega
    have hw2 : IntKind.i64.wrap (lh : Int) = (lh : Int) := IntWalk.i64_in _ ⟨by omega, by omega⟩
    have He : Hid (R = eqB (pa.take lh) ph) := by unfold Hid; rw [HR.out, decide_eq_true hle, Bool.true_and]
    have HE : Hid (∀ W, Below w.heap.size w W → Calls Tryz.prog 40 #[.slice pA lh pc, .slice qA lh qc] W fun e w' => e = .returned (.bool (eqB (pa.take lh) ph)) ∧ Below W.heap.size W w') := fun W hW =>
      strsEq_any pA qA lh lh pc qc (pa.take lh) ph W _ _ (SlV.take (HP.out.belowSize hW) (by rw [← Hla.out]; exact hle)) (HQ.out.belowSize hW)
    generalize eqB (pa.take lh) ph = v at *
    clear HR HP HQ
    go_wp2_with fail
    refine (HE.out w1 HB1.out).mono ?_
    rintro e w2 ⟨rfl, hb2⟩
    have HB2 := Lib.hid (bot HB1.out hb2)
    clear hb2 HE
    go_wp2_with fail
    go_ret
    exact ⟨ret_bool He.out.symm, HB2.out⟩
  · have hI : ¬ (lh : Int) ≤ (la : Int) := by omega
    have He : Hid (R = false) := by unfold Hid; rw [HR.out, decide_eq_false hle, Bool.false_and]
    clear HR HP HQ
    go_wp2_with fail
    go_ret
    exact ⟨ret_bool He.out.symm, HB1.out⟩

theorem anyS_at {q : Stl → Bool} {l : List Stl} {k : Nat} {x : Stl} (h : l[k]? = some x) : (l.drop k).any q = (q x || (l.drop (k + 1)).any q) := by
  obtain ⟨hk, e⟩ := List.getElem?_eq_some_iff.1 h
  rw [List.drop_eq_getElem_cons hk, e, List.any_cons]

set_option maxHeartbeats 3200000 in
set_option maxRecDepth 100000 in
theorem turns_any (C : PlCtx) (hC : C.Ok) (w : World) (st : PlSt) (hw : PlWd C w st) (h : Nat) (hh : h < st.1.length) (s : ByteArray) (hst : ∀ x ∈ st.2, x.frm < st.1.length ∧ x.dst < st.1.length) :
    Calls Tryz.prog 130 #[.pointer (some ⟨C.P, 0, none⟩), .int .i64 (h : Int), .string s] w fun e w' => e = .returned (.bool (turnsB st.1 st.2 h s)) ∧ Below w.heap.size w w' := by
  have HW := Lib.hid hw
  obtain ⟨A, c, A', c', hr⟩ := hw.read
  have hlen := hr.len
  have HRd := Lib.hid hr
  have x7 := hr.c7
  have x8 := hr.c8
  obtain ⟨b, o, pA, pc, hA, hb, y0, _, hp, hpl, hpm⟩ := hr.dir (dirAt_some hh)
  subst hA
  unfold maxLen at hpm
  have HU : Hid (∀ W (a : Nat), Below w.heap.size w W → a < st.1.length → Calls Tryz.prog 157 #[.pointer (some ⟨C.P, 0, none⟩), .int .i64 (a : Int), .int .i64 (h : Int)] W fun e w' => e = .returned (.bool (underP (pathAt st.1 a) (pathAt st.1 h))) ∧ Below W.heap.size W w') := fun W a hW ha => under_any C W st (hw.keep hC hW) a h ha hh
  have HD : Hid (∀ W (a : Nat), Below w.heap.size w W → a < st.1.length → ∃ pA pc, W.cell? ⟨C.P, 7, none⟩ = some (.slice (some ⟨b, o, none⟩) st.1.length c) ∧ W.cell? ⟨b, o + a * 9, none⟩ = some (.slice pA (pathAt st.1 a).length pc)) := fun W a hW ha => by
    have h1 := hr.keep hW
    obtain ⟨b', o', pA, pc, hA', _, y, _⟩ := h1.dir (dirAt_some ha)
    injection hA' with hA'
    injection hA' with hb' ho' _
    subst hb' ho'
    exact ⟨pA, pc, h1.c7, y⟩
  have HS : Hid (∀ W, Below w.heap.size w W → SlV rStl W (fun _ => True) st.2 (.slice A' st.2.length c')) := fun W hW => hr.stls.belowSize hW
  have HST := Lib.hid hst
  have HR : Hid (turnsB st.1 st.2 h s = (st.2.drop 0).any (turnOne st.1 h s)) := rfl
  have H1 : Hid (∀ x : Stl, turnOne st.1 h s x = (decide (x.label = s) && (underP (pathAt st.1 x.frm) (pathAt st.1 h) && decide ((pathAt st.1 x.dst).length ≤ (pathAt st.1 h).length)))) := fun x => rfl
  obtain ⟨lh, hlh⟩ : ∃ n, n = (pathAt st.1 h).length := ⟨_, rfl⟩
  have y0' : w.cell? ⟨b, o + h * 9, none⟩ = some (.slice pA lh pc) := by rw [hlh]; exact y0
  have hlhz : lh ≤ pc := by rw [hlh]; exact hpl
  clear y0 hpl
  rw [← hlh] at H1
  clear hlh hp hst hr hw
  obtain ⟨n, hn⟩ : ∃ n, n = st.1.length := ⟨_, rfl⟩
  obtain ⟨m, hm⟩ : ∃ m, m = st.2.length := ⟨_, rfl⟩
  rw [← hn] at x7 hh HU HD HST hlen
  rw [← hm] at x8 HS hlen
  have Hm := Lib.hid hm
  have hP0 := HRd.out.hP
  clear HRd hn hm HW hC
  generalize turnsB st.1 st.2 h s = R at *
  generalize C.P = PB at *
  have hh0 : (0 : Int) ≤ (h : Int) := by omega
  have hhn : (h : Int) < (n : Int) := by omega
  obtain ⟨hl1, hl2⟩ := hlen
  go_enter Tryz.func130, Tryz.ntmps130
  go_wp2_with fail
  go_loopw [25] (fun t wr => ∃ k : Nat, k ≤ m ∧ t = .int .i64 k ∧ Hid (R = (st.2.drop k).any (turnOne st.1 h s)) ∧ Hid (Below w.heap.size w wr)) (fun t _ => m - (intOf t).toNat)
  case atStart => exact ⟨0, Nat.zero_le _, rfl, HR, Below.refl _ _⟩
  case round =>
    clear HR x7 x8 y0'
    obtain ⟨k, hk, rfl, heq, hbel⟩ := hrel
    have hk0 : (0 : Int) ≤ (k : Int) := by omega
    by_cases hlt : k < m
    case neg =>
      have He : Hid (R = false) := by unfold Hid; rw [heq.out, List.drop_eq_nil_of_le (by have := Hm.out; omega)]; rfl
      have hI : ¬ (k : Int) < (m : Int) := by omega
      clear heq
      go_wp2_with fail
      go_ret
      exact ⟨ret_bool He.out.symm, hbel.out⟩
    have hkn : (k : Int) < (m : Int) := by omega
    obtain ⟨x, hx⟩ : ∃ x, st.2[k]? = some x := ⟨_, List.getElem?_eq_getElem (by have := Hm.out; omega)⟩
    obtain ⟨e1, e2⟩ := HST.out x (List.mem_of_getElem? hx)
    obtain ⟨b', o', cs, hA, _, hb1, ⟨rfl, hlz, hf, hd⟩, hcell⟩ := (HS.out wr hbel.out).elem hx
    subst hA
    have c0 := hcell 0 _ rfl
    have c1 := hcell 1 _ rfl
    have c2 := hcell 2 _ rfl
    simp only [rStl, Nat.add_zero] at c0 c1 c2
    have Hst2 : Hid (R = ((decide (x.label = s) && (underP (pathAt st.1 x.frm) (pathAt st.1 h) && decide ((pathAt st.1 x.dst).length ≤ lh))) || (st.2.drop (k + 1)).any (turnOne st.1 h s))) := by unfold Hid; rw [heq.out, anyS_at hx, H1.out]
    have HU1 : Hid (∀ W, Below w.heap.size w W → Calls Tryz.prog 157 #[.pointer (some ⟨PB, 0, none⟩), .int .i64 (x.frm : Int), .int .i64 (h : Int)] W fun e w' => e = .returned (.bool (underP (pathAt st.1 x.frm) (pathAt st.1 h))) ∧ Below W.heap.size W w') := fun W hW => HU.out W x.frm hW e1
    clear hcell hlz heq
    obtain ⟨xf, xl, xd⟩ := x
    simp only at c0 c1 c2 hf hd Hst2 HU1 e1 e2
    go_upto_region 5 with (fail)
    obtain ⟨w4, hw4⟩ : ∃ w4, w4 = wr.alloc (.cells #[.int .i64 (xf : Int), .string xl, .int .i64 (xd : Int)] 148) := ⟨_, rfl⟩
    have hq4 : w4.heap[wr.heap.size]? = some (.cells #[.int .i64 (xf : Int), .string xl, .int .i64 (xd : Int)] 148 (0, 0)) := by rw [hw4]; exact heap_new _ _
    have HB4 : Hid (Below w.heap.size w w4) := by unfold Hid; rw [hw4]; exact bal hbel.out _
    rw [← hw4]
    obtain ⟨QB, hQB⟩ : ∃ QB, QB = wr.heap.size := ⟨_, rfl⟩
    rw [← hQB] at hq4 ⊢
    have d0 := cell_of_row _ _ 0 _ _ _ hq4
    have d1 := cell_of_row _ _ 1 _ _ _ hq4
    have d2 := cell_of_row _ _ 2 _ _ _ hq4
    obtain ⟨dA, dc, z7, z0⟩ := HD.out w4 xd HB4.out e2
    have HU2 := Lib.hid (qcall (w := w4) (fun W hW => HU1.out W (bot HB4.out hW)))
    have Hbf : Hid (∀ W, Below w4.heap.size w4 W → Below w.heap.size w W) := fun W hW => bot HB4.out hW
    have hd0 : (0 : Int) ≤ (xd : Int) := by omega
    have hdn : (xd : Int) < (n : Int) := by omega
    clear hw4 hQB hq4 c0 c1 c2 HU1 hbel
    generalize underP (pathAt st.1 xf) (pathAt st.1 h) = u at *
    generalize (pathAt st.1 xd).length = ld at *
    have r_d0 := cell_regrown d0
    have r_d1 := cell_regrown d1
    have r_d2 := cell_regrown d2
    have r_z7 := cell_regrown z7
    have r_z0 := cell_regrown z0
    by_cases h2 : xl = s
    case neg =>
      have hb2 := beq_false h2
      have He : Hid (R = (st.2.drop (k + 1)).any (turnOne st.1 h s)) := by unfold Hid; rw [Hst2.out, decide_eq_false h2]; rfl
      clear h2 Hst2
      go_wp2_with fail
      refine wp_region_qb (by kernel_rfl) (by kernel_rfl) ?_
      repeat (go_big_quiet_step (first | (with_reducible exact HU2.out _ _)))
      refine wpQuiet_nil ?_
      intro w5 B5
      have HB5 := Lib.hid (Hbf.out _ B5)
      go_wp2_with fail
      go_roundw
      case rel => exact ⟨k + 1, by omega, by go_num, He, HB5⟩
      case measure => simp [intOf]; omega
    have hb2 := beq_true h2
    rw [decide_eq_true h2, Bool.true_and] at Hst2
    clear h2
    cases u with
    | false =>
      have He : Hid (R = (st.2.drop (k + 1)).any (turnOne st.1 h s)) := by unfold Hid; rw [Hst2.out]; rfl
      clear Hst2
      go_wp2_with fail
      refine wp_region_qb (by kernel_rfl) (by kernel_rfl) ?_
      repeat (go_big_quiet_step (first | (with_reducible exact HU2.out _ _)))
      refine wpQuiet_nil ?_
      intro w5 B5
      have HB5 := Lib.hid (Hbf.out _ B5)
      go_wp2_with fail
      go_roundw
      case rel => exact ⟨k + 1, by omega, by go_num, He, HB5⟩
      case measure => simp [intOf]; omega
    | true =>
    by_cases h3 : ld ≤ lh
    · have hI : (ld : Int) ≤ (lh : Int) := by omega
      have hId : decide ((ld : Int) ≤ (lh : Int)) = true := decide_eq_true hI
      have He : Hid (R = true) := by unfold Hid; rw [Hst2.out, decide_eq_true h3]; rfl
      clear Hst2
      go_wp2_with fail
      refine wp_region_qb (by kernel_rfl) (by kernel_rfl) ?_
      repeat (go_big_quiet_step (first | (with_reducible exact HU2.out _ _)))
      refine wpQuiet_nil ?_
      intro w5 B5
      have HB5 := Lib.hid (Hbf.out _ B5)
      go_wp2_with fail
      go_ret
      exact ⟨ret_bool He.out.symm, HB5.out⟩
    · have hI : ¬ (ld : Int) ≤ (lh : Int) := by omega
      have hId : decide ((ld : Int) ≤ (lh : Int)) = false := decide_eq_false hI
      have He : Hid (R = (st.2.drop (k + 1)).any (turnOne st.1 h s)) := by unfold Hid; rw [Hst2.out, decide_eq_false h3]; rfl
      clear Hst2
      go_wp2_with fail
      refine wp_region_qb (by kernel_rfl) (by kernel_rfl) ?_
      repeat (go_big_quiet_step (first | (with_reducible exact HU2.out _ _)))
      refine wpQuiet_nil ?_
      intro w5 B5
      have HB5 := Lib.hid (Hbf.out _ B5)
      go_wp2_with fail
      go_roundw
      case rel => exact ⟨k + 1, by omega, by go_num, He, HB5⟩
      case measure => simp [intOf]; omega
end Go.Proofs.YtminjjdnmpaaoaaGreatDoor
set_option autoImplicit false
set_option relaxedAutoImplicit false
set_option linter.unusedVariables false
set_option linter.unusedSimpArgs false
namespace Go.Proofs.YtminjjdnmpaaoaaGreatDoor
open Go.Rows Go.RowKit Go.Shelf Go.Sort

/-- a node's cells -/
theorem PlRd.node {C : PlCtx} {w : World} {st : PlSt} {A : Option Addr} {c : Nat} {A' : Option Addr} {c' : Nat} (h : PlRd C w st A c A' c') (hC : C.Ok) (hb : Below C.w0.heap.size C.w0 w) {i : Nat} {n : Node} (hi : C.q.g[i]? = some n) :
    ∃ (b o : Nat) (xA : Option Addr) (xc : Nat) (eA : Option Addr) (ec : Nat), C.gA = some ⟨b, o, none⟩ ∧ b < C.w0.heap.size ∧ i < C.gn ∧ w.cell? ⟨b, o + i * 6, none⟩ = some (.string n.name) ∧ w.cell? ⟨b, o + i * 6 + 1, none⟩ = some (.int .i64 n.ver.major) ∧ w.cell? ⟨b, o + i * 6 + 2, none⟩ = some (.int .i64 n.ver.minor) ∧ w.cell? ⟨b, o + i * 6 + 3, none⟩ = some (.int .i64 n.ver.patch) ∧
      w.cell? ⟨b, o + i * 6 + 4, none⟩ = some (.slice xA n.ctx.length xc) ∧ w.cell? ⟨b, o + i * 6 + 5, none⟩ = some (.slice eA n.edges.length ec) ∧ SlV rPin w (fun b => b < C.w0.heap.size) n.ctx (.slice xA n.ctx.length xc) ∧ SlV rEdge w (fun b => b < C.w0.heap.size) n.edges (.slice eA n.edges.length ec) ∧ n.name.size ≤ maxLen := by
  have hg := hC.g.belowSize hb
  have hn := hg.n_eq
  obtain ⟨b, o, cs, hA, hS, hbl, hh, hcell⟩ := hg.elem hi
  obtain ⟨s0, s1, rfl, hnm, _, _, _, hx, he⟩ := hh
  obtain ⟨xA, xc, rfl, _, _⟩ := hx.val
  obtain ⟨eA, ec, rfl, _, _⟩ := he.val
  have c0 := hcell 0 _ rfl
  have c1 := hcell 1 _ rfl
  have c2 := hcell 2 _ rfl
  have c3 := hcell 3 _ rfl
  have c4 := hcell 4 _ rfl
  have c5 := hcell 5 _ rfl
  simp only [rNode, Nat.add_zero] at c0 c1 c2 c3 c4 c5
  exact ⟨b, o, xA, xc, eA, ec, hA, hS, by rw [hn]; exact (List.getElem?_eq_some_iff.1 hi).1, c0, c1, c2, c3, c4, c5, hx, he, hnm⟩
theorem allP_at {q : Pin → Bool} {l : List Pin} {k : Nat} {x : Pin} (h : l[k]? = some x) : (l.drop k).all q = (q x && (l.drop (k + 1)).all q) := by
  obtain ⟨hk, e⟩ := List.getElem?_eq_some_iff.1 h
  rw [List.drop_eq_getElem_cons hk, e, List.all_cons]
theorem slv_len {α : Type} {r : Rp α} {w : World} {S : Nat → Prop} {l : List α} {A : Option Addr} {n c : Nat} (h : SlV r w S l (.slice A n c)) : n ≤ 9223372036854775807 := by
  have h1 := h.cap_le
  obtain ⟨_, _, e1, h3, _⟩ := h.val
  simp only [Value.slice.injEq] at e1
  unfold maxLen at h1
  omega

set_option maxHeartbeats 3200000 in
set_option maxRecDepth 100000 in
theorem beside_any (C : PlCtx) (hC : C.Ok) (w : World) (st : PlSt) (hw : PlWd C w st) (a f : Nat) (ha : a < st.1.length) (hf : f ≤ 1000000) {n : Node} {j : Nat} (hj : (dirAt st.1 a).node = (j : Int)) (hn : C.q.g[j]? = some n) (hlen : ∀ d ∈ st.1, d.path.length * 32 ≤ 140737488355328) :
    Calls Tryz.prog 79 #[.pointer (some ⟨C.P, 0, none⟩), .int .i64 (a : Int), .int .i64 (f : Int)] w fun e w' => e = .returned (.bool (seesB C.q.g st.1 st.2 a f)) ∧ Below w.heap.size w w' := by
  obtain ⟨A, c, A', c', hr⟩ := hw.read
  have hlen1 := hr.len.1
  have x0 := hr.c0
  have x7 := hr.c7
  obtain ⟨b, o, pA, pc, hA, hb, _, y8, _, _, _⟩ := hr.dir (dirAt_some ha)
  obtain ⟨gb, go, xA, xc, eA, ec, hgA, hgb, hjn, _, _, _, _, g4, _, hx, _, _⟩ := hr.node hC hw.base hn
  rw [hj] at y8
  subst hA
  have hgcap := slv_len (hC.g)
  have hxl := slv_len hx
  have hnlt : C.gn ≤ 9223372036854775807 := hgcap
  rw [hgA] at x0
  have hHP := hr.hP
  have HF : Hid (∀ W (s : ByteArray), Below w.heap.size w W → Calls Tryz.prog 128 #[.pointer (some ⟨C.P, 0, none⟩), .int .i64 (f : Int), .string s] W fun e w' => e = .returned (.int .i64 (foundS st.2 f s)) ∧ Below W.heap.size W w') := fun W s hW => found_any C W st (hw.keep hC hW) f hf s
  have HL : Hid (∀ W (s : ByteArray), s.size ≤ maxLen → Below w.heap.size w W → Calls Tryz.prog 17 #[.agg #[.slice (some ⟨b, o, none⟩) st.1.length c], .int .i64 (a : Int), .string s] W fun e w' => e = .returned (.int .i64 (lookI st.1 (a : Int) s)) ∧ Below W.heap.size W w') := fun W s hs hW => look_any _ _ _ st.1 s W _ (a : Int) hs hlen (hr.dirs.belowSize hW)
  have HX7 : Hid (∀ W, Below w.heap.size w W → W.cell? ⟨C.P, 7, none⟩ = some (.slice (some ⟨b, o, none⟩) st.1.length c)) := fun W hW => below_cell hW x7 hHP
  have HR : Hid (seesB C.q.g st.1 st.2 a f = (n.ctx.drop 0).all (seesOne st.1 st.2 a f)) := by
    unfold Hid seesB
    rw [hj, Int.toNat_natCast, hn]
    rfl
  have H1 : Hid (∀ q : Pin, seesOne st.1 st.2 a f q = (decide (0 ≤ foundS st.2 f q.name) && decide (lookI st.1 (a : Int) q.name = foundS st.2 f q.name))) := fun q => rfl
  have HX := Lib.hid (hx.more (S' := fun _ => True) fun _ _ _ => trivial)
  obtain ⟨m, hm⟩ : ∃ m, m = n.ctx.length := ⟨_, rfl⟩
  rw [← hm] at g4 HX hxl
  have Hm := Lib.hid hm
  obtain ⟨N, hN⟩ : ∃ N, N = st.1.length := ⟨_, rfl⟩
  rw [← hN] at x7 HX7 HL ha hlen1
  clear hm hN hr hw hx hC hgA hn hj hlen
  generalize seesB C.q.g st.1 st.2 a f = R at *
  generalize C.P = PB at *
  generalize C.gn = gn at *
  generalize C.gc = gc at *
  generalize n.ctx = ctx at *
  have ha0 : (0 : Int) ≤ (a : Int) := by omega
  have han : (a : Int) < (N : Int) := by omega
  have hj0 : (0 : Int) ≤ (j : Int) := by omega
  have hjI : (j : Int) < (gn : Int) := by omega
  go_enter Tryz.func79, Tryz.ntmps79
  have r_x0 := cell_regrown x0
  have r_x7 := cell_regrown x7
  have r_y8 := cell_regrown y8
  have r_g4 := cell_regrown g4
  go_wp2_with fail
  refine wp_region_qb (by kernel_rfl) (by kernel_rfl) ?_
  repeat (go_big_quiet_step (first | fail))
  refine wpQuiet_nil ?_
  intro w1 B1
  have HB1 := Lib.hid B1
  clear r_x0 r_x7 r_y8 r_g4 x0 x7 y8 g4 B1
  go_wp2_with fail
  go_loopw [28] (fun t wr => ∃ k : Nat, k ≤ m ∧ t = .int .i64 k ∧ Hid (R = (ctx.drop k).all (seesOne st.1 st.2 a f)) ∧ Hid (Below w.heap.size w wr)) (fun t _ => m - (intOf t).toNat)
  case atStart => exact ⟨0, Nat.zero_le _, rfl, HR, HB1⟩
  case round =>
    clear HR HB1
    obtain ⟨k, hk, rfl, heq, hbel⟩ := hrel
    have hk0 : (0 : Int) ≤ (k : Int) := by omega
    by_cases hlt : k < m
    case neg =>
      have He : Hid (R = true) := by unfold Hid; rw [heq.out, List.drop_eq_nil_of_le (by have := Hm.out; omega)]; rfl
      have hI : ¬ (k : Int) < (m : Int) := by omega
      clear heq
      go_wp2_with fail
      go_ret
      exact ⟨ret_bool He.out.symm, hbel.out⟩
    have hkn : (k : Int) < (m : Int) := by omega
    obtain ⟨x, hx⟩ : ∃ x, ctx[k]? = some x := ⟨_, List.getElem?_eq_getElem (by have := Hm.out; omega)⟩
    obtain ⟨b', o', cs, hA, _, hb1, ⟨rfl, hlz, _⟩, hcell⟩ := (HX.out.belowSize hbel.out).elem hx
    subst hA
    have c0 := hcell 0 _ rfl
    have c1 := hcell 1 _ rfl
    have c2 := hcell 2 _ rfl
    have c3 := hcell 3 _ rfl
    simp only [rPin, Nat.add_zero] at c0 c1 c2 c3
    have Hst2 : Hid (R = ((decide (0 ≤ foundS st.2 f x.name) && decide (lookI st.1 (a : Int) x.name = foundS st.2 f x.name)) && (ctx.drop (k + 1)).all (seesOne st.1 st.2 a f))) := by unfold Hid; rw [heq.out, allP_at hx, H1.out]
    have HF1 : Hid (∀ W, Below w.heap.size w W → Calls Tryz.prog 128 #[.pointer (some ⟨PB, 0, none⟩), .int .i64 (f : Int), .string x.name] W fun e w' => e = .returned (.int .i64 (foundS st.2 f x.name)) ∧ Below W.heap.size W w') := fun W hW => HF.out W x.name hW
    have HL1 : Hid (∀ W, Below w.heap.size w W → Calls Tryz.prog 17 #[.agg #[.slice (some ⟨b, o, none⟩) N c], .int .i64 (a : Int), .string x.name] W fun e w' => e = .returned (.int .i64 (lookI st.1 (a : Int) x.name)) ∧ Below W.heap.size W w') := fun W hW => HL.out W x.name hlz hW
    clear hcell hlz heq
    generalize x.name = nm at *
    generalize x.ver.major = v1 at *
    generalize x.ver.minor = v2 at *
    generalize x.ver.patch = v3 at *
    generalize foundS st.2 f nm = fo at *
    generalize lookI st.1 (a : Int) nm = lk at *
    go_upto_region 4 with (fail)
    obtain ⟨w4, hw4⟩ : ∃ w4, w4 = wr.alloc (.cells #[.string nm, .int .i64 v1, .int .i64 v2, .int .i64 v3] 63) := ⟨_, rfl⟩
    have hq4 : w4.heap[wr.heap.size]? = some (.cells #[.string nm, .int .i64 v1, .int .i64 v2, .int .i64 v3] 63 (0, 0)) := by rw [hw4]; exact heap_new _ _
    have HB4 : Hid (Below w.heap.size w w4) := by unfold Hid; rw [hw4]; exact bal hbel.out _
    rw [← hw4]
    obtain ⟨QB, hQB⟩ : ∃ QB, QB = wr.heap.size := ⟨_, rfl⟩
    rw [← hQB] at hq4 ⊢
    have d0 := cell_of_row _ _ 0 _ _ _ hq4
    have hqz := cell_lt d0
    clear hw4 hQB hq4 c0 c1 c2 c3 hbel
    go_wp2_with fail
    refine (HF1.out w4 HB4.out).mono ?_
    rintro e w5 ⟨rfl, hb5⟩
    have HB5 := Lib.hid (bot HB4.out hb5)
    have e0 := below_cell hb5 d0 hqz
    have x7 := HX7.out w5 HB5.out
    have HL2 := Lib.hid (qcall (w := w5) (fun W hW => HL1.out W (bot HB5.out hW)))
    have Hbf : Hid (∀ W, Below w5.heap.size w5 W → Below w.heap.size w W) := fun W hW => bot HB5.out hW
    clear hb5 HF1 HL1 d0 HB4 HB5
    have r_e0 := cell_regrown e0
    have r_x7 := cell_regrown x7
    by_cases h1 : 0 ≤ fo
    case neg =>
      have hI : fo < 0 := by omega
      have hId : decide (fo < 0) = true := decide_eq_true hI
      have He : Hid (R = false) := by unfold Hid; rw [Hst2.out, decide_eq_false h1]; rfl
      clear Hst2 h1
      go_wp2_with fail
      refine wp_region_qb (by kernel_rfl) (by kernel_rfl) ?_
      repeat (go_big_quiet_step (first | (with_reducible exact HL2.out _ _)))
      refine wpQuiet_nil ?_
      intro w6 B6
      have HB6 := Lib.hid (Hbf.out _ B6)
      go_wp2_with fail
      go_ret
      exact ⟨ret_bool He.out.symm, HB6.out⟩
    have hI : ¬ fo < 0 := by omega
    have hId : decide (fo < 0) = false := decide_eq_false hI
    rw [decide_eq_true h1, Bool.true_and] at Hst2
    by_cases h2 : lk = fo
    · have hbn : (lk != fo) = false := by simp [h2]
      have He : Hid (R = (ctx.drop (k + 1)).all (seesOne st.1 st.2 a f)) := by unfold Hid; rw [Hst2.out, decide_eq_true h2]; rfl
      clear Hst2 h2 h1
      go_wp2_with fail
      refine wp_region_qb (by kernel_rfl) (by kernel_rfl) ?_
      repeat (go_big_quiet_step (first | (with_reducible exact HL2.out _ _)))
      refine wpQuiet_nil ?_
      intro w6 B6
      have HB6 := Lib.hid (Hbf.out _ B6)
      go_wp2_with fail
      go_roundw
      case rel => exact ⟨k + 1, by omega, by go_num, He, HB6⟩
      case measure => simp [intOf]; omega
    · have hbn : (lk != fo) = true := by simp [h2]
      have He : Hid (R = false) := by unfold Hid; rw [Hst2.out, decide_eq_false h2]; rfl
      clear Hst2 h2 h1
      go_wp2_with fail
      refine wp_region_qb (by kernel_rfl) (by kernel_rfl) ?_
      repeat (go_big_quiet_step (first | (with_reducible exact HL2.out _ _)))
      refine wpQuiet_nil ?_
      intro w6 B6
      have HB6 := Lib.hid (Hbf.out _ B6)
      go_wp2_with fail
      go_ret
      exact ⟨ret_bool He.out.symm, HB6.out⟩
end Go.Proofs.YtminjjdnmpaaoaaGreatDoor
set_option autoImplicit false
set_option relaxedAutoImplicit false
set_option linter.unusedVariables false
set_option linter.unusedSimpArgs false
namespace Go.Proofs.YtminjjdnmpaaoaaGreatDoor
open Go.Rows Go.RowKit Go.Shelf Go.Sort

theorem elems_str {w : World} {S : Nat → Prop} : ∀ {l : List ByteArray}, (∀ x ∈ l, x.size ≤ maxLen) → Elems rStr w S l (l.map Value.string)
  | [], _ => rfl
  | x :: l, h => ⟨[.string x], l.map Value.string, rfl, ⟨rfl, h x (by simp)⟩, elems_str fun y hy => h y (by simp [hy])⟩
theorem slv_sizes {w : World} {S : Nat → Prop} {l : List ByteArray} {v : Value} (h : SlV rStr w S l v) : ∀ x ∈ l, x.size ≤ maxLen := fun x hx => by
  obtain ⟨i, hi, rfl⟩ := List.getElem_of_mem hx
  obtain ⟨A, c, rfl, _, _⟩ := h.val
  obtain ⟨b, o, cs, _, _, _, ⟨_, hz⟩, _⟩ := h.elem (List.getElem?_eq_getElem hi)
  exact hz
/-- a copy of texts, in memory of its own -/
theorem cloneStr_own (A : Option Addr) (n c : Nat) (l : List ByteArray) (w : World) (S : Nat → Prop) (hlen : l.length * 32 ≤ 140737488355328) (hl : SlV rStr w S l (.slice A n c)) :
    Calls Tryz.prog 129 #[.slice A n c] w fun e w' => ∃ v, e = .returned v ∧ Own rStr w' w.heap.size 9 v l (fun _ => False) ∧ Below w.heap.size w w' := by
  have hn := hl.n_eq
  have hsz := slv_sizes hl
  cases A with
  | none =>
    have hl0 : l = [] := by
      cases l with
      | nil => rfl
      | cons x t =>
        obtain ⟨b, o, cs, hA, _⟩ := hl.elem (i := 0) (x := x) rfl
        cases hA
    refine (Tryz.slices_Clone_string_nil n c w).mono ?_
    rintro e w' ⟨rfl, rfl⟩
    rw [hl0]
    exact ⟨_, rfl, Own.nil_ _ _ _ _ (fun b h => h.elim), Below.refl _ _⟩
  | some a =>
    by_cases h0 : n = 0
    · subst h0
      have hl0 : l = [] := List.eq_nil_of_length_eq_zero hn.symm
      refine (Tryz.slices_Clone_string_zero a c w).mono ?_
      rintro e w' ⟨v, rfl, hown, _, hb⟩
      rw [hl0]
      exact ⟨v, rfl, ⟨fun b h => h.elim, [], hown, rfl⟩, hb⟩
    · obtain ⟨b, o, cs, hA, _⟩ := hl.elem (List.getElem?_eq_getElem (show 0 < l.length by omega))
      cases hA
      refine (Tryz.slices_Clone_string b o n c l w (by omega) (by omega) fun j hj => ?_).mono ?_
      · obtain ⟨b2, o2, cs2, e, _, _, ⟨rfl, _⟩, hcell⟩ := hl.elem (List.getElem?_eq_getElem hj)
        have := hcell 0 _ rfl
        simp only [Option.some.injEq, Addr.mk.injEq] at e
        obtain ⟨rfl, rfl, _⟩ := e
        simp only [rStr, Nat.add_zero, Nat.mul_one] at this
        rw [this, List.getD_eq_getElem?_getD, List.getElem?_eq_getElem hj]; rfl
      · rintro e w' ⟨v, rfl, hown, _, hb⟩
        rw [hn, List.take_length] at hown
        exact ⟨v, rfl, ⟨fun b h => h.elim, l.map Value.string, hown, elems_str hsz⟩, hb⟩
/-- a package's cells -/
theorem PlRd.pack {C : PlCtx} {w : World} {st : PlSt} {A : Option Addr} {c : Nat} {A' : Option Addr} {c' : Nat} (h : PlRd C w st A c A' c') (hC : C.Ok) (hb : Below C.w0.heap.size C.w0 w) {i : Nat} {x : Pack} (hi : C.q.ps[i]? = some x) :
    ∃ (b o : Nat) (dA : Option Addr) (dc : Nat) (eA : Option Addr) (ec : Nat) (fA : Option Addr) (fc : Nat), C.pA = some ⟨b, o, none⟩ ∧ b < C.w0.heap.size ∧ i < C.pn ∧ w.cell? ⟨b, o + i * 7, none⟩ = some (.string x.name) ∧ w.cell? ⟨b, o + i * 7 + 1, none⟩ = some (.int .i64 x.ver.major) ∧ w.cell? ⟨b, o + i * 7 + 2, none⟩ = some (.int .i64 x.ver.minor) ∧ w.cell? ⟨b, o + i * 7 + 3, none⟩ = some (.int .i64 x.ver.patch) ∧
      w.cell? ⟨b, o + i * 7 + 4, none⟩ = some (.slice dA x.deps.length dc) ∧ w.cell? ⟨b, o + i * 7 + 5, none⟩ = some (.slice eA x.peers.length ec) ∧ w.cell? ⟨b, o + i * 7 + 6, none⟩ = some (.slice fA x.opts.length fc) ∧
      PackV w (fun b => b < C.w0.heap.size) x (.agg #[.string x.name, .int .i64 x.ver.major, .int .i64 x.ver.minor, .int .i64 x.ver.patch, .slice dA x.deps.length dc, .slice eA x.peers.length ec, .slice fA x.opts.length fc]) ∧ I64 x.ver.major ∧ I64 x.ver.minor ∧ I64 x.ver.patch := by
  have hg := hC.p.belowSize hb
  have hn := hg.n_eq
  obtain ⟨b, o, cs, hA, hS, hbl, hh, hcell⟩ := hg.elem hi
  obtain ⟨s0, s1, s2, rfl, hnm, i1, i2, i3, h1, h2, h3⟩ := hh
  obtain ⟨dA, dc, rfl, _, _⟩ := h1.val
  obtain ⟨eA, ec, rfl, _, _⟩ := h2.val
  obtain ⟨fA, fc, rfl, _, _⟩ := h3.val
  have c0 := hcell 0 _ rfl
  have c1 := hcell 1 _ rfl
  have c2 := hcell 2 _ rfl
  have c3 := hcell 3 _ rfl
  have c4 := hcell 4 _ rfl
  have c5 := hcell 5 _ rfl
  have c6 := hcell 6 _ rfl
  simp only [rPack, Nat.add_zero] at c0 c1 c2 c3 c4 c5 c6
  exact ⟨b, o, dA, dc, eA, ec, fA, fc, hA, hS, by rw [hn]; exact (List.getElem?_eq_some_iff.1 hi).1, c0, c1, c2, c3, c4, c5, c6, ⟨_, _, _, _, _, _, _, _, _, rfl, hnm, h1, h2, h3⟩, i1, i2, i3⟩
/-- an old tree's package -/
theorem old_pack {w : World} {S : Nat → Prop} {l : List Dir} {A : Option Addr} {n c : Nat} (h : SlV rDir w S l (.slice A n c)) {i : Nat} {d : Dir} (hi : l[i]? = some d) :
    ∃ (b o : Nat) (dA : Option Addr) (dc : Nat) (eA : Option Addr) (ec : Nat) (fA : Option Addr) (fc : Nat), A = some ⟨b, o, none⟩ ∧ b < w.heap.size ∧ w.cell? ⟨b, o + i * 9 + 1, none⟩ = some (.string d.pack.name) ∧ w.cell? ⟨b, o + i * 9 + 2, none⟩ = some (.int .i64 d.pack.ver.major) ∧ w.cell? ⟨b, o + i * 9 + 3, none⟩ = some (.int .i64 d.pack.ver.minor) ∧ w.cell? ⟨b, o + i * 9 + 4, none⟩ = some (.int .i64 d.pack.ver.patch) ∧
      w.cell? ⟨b, o + i * 9 + 5, none⟩ = some (.slice dA d.pack.deps.length dc) ∧ w.cell? ⟨b, o + i * 9 + 6, none⟩ = some (.slice eA d.pack.peers.length ec) ∧ w.cell? ⟨b, o + i * 9 + 7, none⟩ = some (.slice fA d.pack.opts.length fc) ∧
      PackV w S d.pack (.agg #[.string d.pack.name, .int .i64 d.pack.ver.major, .int .i64 d.pack.ver.minor, .int .i64 d.pack.ver.patch, .slice dA d.pack.deps.length dc, .slice eA d.pack.peers.length ec, .slice fA d.pack.opts.length fc]) := by
  obtain ⟨b, o, cs, hA, hS, hbl, hh, hcell⟩ := h.elem hi
  obtain ⟨pA, pa, pB, pb, pC, pc, pD, pd, rfl, hp, hpk, hI⟩ := dir_cells hh
  have c1 := hcell 1 _ rfl
  have c2 := hcell 2 _ rfl
  have c3 := hcell 3 _ rfl
  have c4 := hcell 4 _ rfl
  have c5 := hcell 5 _ rfl
  have c6 := hcell 6 _ rfl
  have c7 := hcell 7 _ rfl
  simp only [rDir] at c1 c2 c3 c4 c5 c6 c7
  exact ⟨b, o, pB, pb, pC, pc, pD, pd, hA, hbl, c1, c2, c3, c4, c5, c6, c7, hpk⟩
end Go.Proofs.YtminjjdnmpaaoaaGreatDoor
