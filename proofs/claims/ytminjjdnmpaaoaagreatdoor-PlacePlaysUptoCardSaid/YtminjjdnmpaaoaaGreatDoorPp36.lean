/-
  The document's placer: one edge of a directory: walked.
-/
import Derived.Test.YtminjjdnmpaaoaaGreatDoorPp35
import Derived.Test.YtminjjdnmpaaoaaGreatDoorPp30
import Derived.Test.YtminjjdnmpaaoaaGreatDoorPp27
import Derived.Test.YtminjjdnmpaaoaaGreatDoorPp21
import Derived.Deep.CutRange
set_option autoImplicit false
set_option relaxedAutoImplicit false
set_option linter.unusedVariables false
set_option linter.unusedSimpArgs false
namespace Go.Proofs.YtminjjdnmpaaoaaGreatDoor
open Go.Rows Go.RowKit Go.Shelf Go.Sort

/-- what is wanted of a world before a lookup is settled -/
theorem stl_law (C : DlCtx) (hC : C.Ok) {w wx : World} {T : List Dir} {L : List Stl} (hw : DlWd C wx (T, L)) (hF : DlFr C w wx) (at_ j : Nat) (s : ByteArray) :
    ∃ (A' : Option Addr) (c' : Nat), wx.cell? ⟨C.P, 9, none⟩ = some (.slice A' L.length c') ∧ (∀ (W : World) (ob : Obj), Below wx.heap.size wx W → Own rStl (W.alloc ob) C.w0.heap.size 130 (.slice A' L.length c') L (fun _ => False)) ∧
      (∀ (W w8 : World) (ob : Obj) (g8 cap8 : Nat), Below wx.heap.size wx W → Own rStl w8 C.w0.heap.size 130 (.slice (some ⟨g8, 0, none⟩) (L.length + 1) cap8) (L ++ [⟨at_, s, j⟩]) (fun _ => False) → (W.alloc ob).grownBy w8 (Value.slice A' L.length c').ownBlock → ((Value.slice A' L.length c').ownBlock = some g8 ∨ g8 = W.heap.size + 1) →
        w8.cell? ⟨C.P, 9, none⟩ = some (.slice A' L.length c') ∧ w8.frozen? ⟨C.P, 9, none⟩ = false ∧ DlWd C (w8.setCell ⟨C.P, 9, none⟩ (.slice (some ⟨g8, 0, none⟩) (L.length + 1) cap8)) (T, L ++ [⟨at_, s, j⟩]) ∧ DlFr C w (w8.setCell ⟨C.P, 9, none⟩ (.slice (some ⟨g8, 0, none⟩) (L.length + 1) cap8))) ∧
      C.w0.heap.size ≤ wx.heap.size ∧ C.P < wx.heap.size := by
  obtain ⟨A, c, A', c', S, hpp⟩ := hw.parts
  have hP := hpp.hP
  refine ⟨A', c', cell_of_row _ _ 9 _ _ _ hpp.row, fun W ob hW => (hpp.keep (bal hW ob)).S', fun W w8 ob g8 cap8 hW hown hgrow hat => ?_, hpp.base.size, hP⟩
  have hk := hpp.keep (bal hW ob)
  have hat2 : (Value.slice A' L.length c').ownBlock = some g8 ∨ (W.alloc ob).heap.size ≤ g8 := by rcases hat with h | h; exact .inl h; exact .inr (by rw [h]; simp)
  obtain ⟨h1, h2⟩ := hk.push_stl hC hown hgrow hat2
  exact ⟨cell_of_row _ _ 9 _ _ _ h1, frozen_row h1, h2.all, hF.trans ((DlFr.below hP (bal hW ob)).trans (hk.frS hgrow hat2 h1))⟩

theorem kindP_1 (q : PlIn) (m : Node) (e : Edge) (h : (m.ctx.any fun x => decide (x.name = e.label)) = true) : kindP q m e = 1 := by unfold kindP; rw [if_pos h]
theorem kindP_2 (q : PlIn) (m : Node) (e : Edge) (h : (m.ctx.any fun x => decide (x.name = e.label)) = false) : kindP q m e = if (nodeAt q e.to.toNat).ctx.length = 0 then 2 else 3 := by unfold kindP; rw [if_neg (by rw [h]; decide)]
theorem stepE_33 {q : PlIn} {at_ : Nat} {e : Edge} {st : PlSt} (h : rightP q st at_ 1 e = false) : stepE q at_ 1 e st = .error 33 := by
  unfold stepE; rw [if_neg (by rw [h]; decide), if_pos rfl]

/-- what one edge answers: nothing where it is of another kind -/
def OneR (C : DlCtx) (w : World) (st : PlSt) (K kind : Nat) (R : Except Int PlSt) (e : Ending) (w' : World) : Prop :=
  (K ≠ kind ∧ e = .returned (.int .i64 0) ∧ DlWd C w' st ∧ DlFr C w w') ∨ (K = kind ∧ ((∃ c, R = .error c ∧ e = .returned (.int .i64 c) ∧ (c = 33 ∨ c = 40 ∨ c = 41) ∧ DlWd C w' st ∧ DlFr C w w') ∨ (∃ st', R = .ok st' ∧ e = .returned (.int .i64 0) ∧ DlWd C w' st' ∧ DlFr C w w')))

set_option maxHeartbeats 12800000 in
set_option maxRecDepth 100000 in
theorem oneD_any (C : DlCtx) (hC : C.Ok) (w : World) (st : PlSt) (hw : DlWd C w st) {at_ : Nat} {done : List ByteArray} (hinv : PlInv C.q at_ done st) {d : Dir} (hd : st.1[at_]? = some d) {mn : Nat} (hdn : d.node = (mn : Int)) {m : Node} (hm : C.q.g[mn]? = some m) (s : ByteArray) (tn : Nat) (hsz : s.size ≤ maxLen) {n : Node} (hn : C.q.g[tn]? = some n) (hns : n.name = s)
    {x : Pack} (hx : C.q.ps[tn]? = some x) (hnx : x.name = n.name) (hst : st.2.length ≤ 900000) (kind : Nat) (hk : kind = 1 ∨ kind = 2 ∨ kind = 3) (hsd : kindP C.q m ⟨s, (tn : Int)⟩ = kind → s ∉ done) :
    Calls Tryz.prog 29 #[.pointer (some ⟨C.P, 0, none⟩), .int .i64 (at_ : Int), .agg #[.string s, .int .i64 (tn : Int)], .int .i64 (kind : Int)] w fun e w' =>
      OneR C w st (kindP C.q m ⟨s, (tn : Int)⟩) kind (stepE C.q at_ kind ⟨s, (tn : Int)⟩ st) e w' := by
  have hbase := hw.base
  obtain ⟨A, c, A', c', hr⟩ := hw.read
  have HW := Lib.hid hw
  have HC := Lib.hid hC
  have hHP := hr.hP
  have hat := (List.getElem?_eq_some_iff.1 hd).1
  have hll := hinv.len
  obtain ⟨gb, go, yA, yc, fA, fc, hgA, hgb, hmn, g0, g1, g2, g3, g4, g5, hpin, _, _⟩ := hr.node hC hbase hm
  obtain ⟨gb2, go2, xA, xc, eA, ec, hgA2, _, hgn, n0, n1, n2, n3, n4, n5, _⟩ := hr.node hC hbase hn
  rw [hgA] at hgA2
  injection hgA2 with hgA2
  injection hgA2 with hgb2 hgo2 _
  subst hgb2 hgo2
  obtain ⟨b, o, pA, pc, hA, hb, _, y8, _, _, _⟩ := hr.dir hd
  rw [hdn] at y8
  subst hA
  have hgcap := slv_len hC.g
  have hlenD : ∀ d ∈ st.1, d.path.length ≤ 1024 := fun d hd => Nat.le_trans (path_len (hinv.names d hd).1) (hinv.names d hd).2
  have hgw : gb < w.heap.size := Nat.lt_of_lt_of_le hgb hbase.size
  have HLk : Hid (∀ W, Below w.heap.size w W → Calls Tryz.prog 57 #[.agg #[.slice (some ⟨b, o, none⟩) st.1.length c], .int .i64 (at_ : Int), .string s] W fun e w' => e = .returned (.int .i64 (lookI st.1 (at_ : Int) s)) ∧ Below W.heap.size W w') := fun W hW => refLook_any _ _ c st.1 s W _ _ hsz (fun d hd => by have := hlenD d hd; omega) (hr.dirs.belowSize hW)
  have HBt : Hid (∀ W, Below w.heap.size w W → Calls Tryz.prog 59 #[.pointer (some ⟨C.P, 0, none⟩), .int .i64 (at_ : Int), .int .i64 (tn : Int)] W fun e w' => e = .returned (.int .i64 (spotI st.1 st.2 C.q.old d.path s x)) ∧ Below W.heap.size W w') := fun W hW => by
    have := bestD_any C hC W st (hw.keep hW) at_ tn hat hn hx hlenD fun x hx => ⟨(hinv.stl x hx).1, (hinv.stl x hx).2.1⟩
    rw [hns, best_spot hinv hd] at this
    exact this
  have HBs : Hid (∀ W (j : Nat), Below w.heap.size w W → j < st.1.length → (dirAt st.1 j).node = (tn : Int) → Calls Tryz.prog 58 #[.pointer (some ⟨C.P, 0, none⟩), .int .i64 (j : Int), .int .i64 (at_ : Int)] W fun e w' => e = .returned (.bool (seesB C.q.g st.1 st.2 j at_)) ∧ Below W.heap.size W w') := fun W j hW hj hjn => sees_any C hC W st (hw.keep hW) j at_ hj (by omega) hjn hn (fun d hd => by have := hlenD d hd; omega)
  have HBe : Hid (∀ W, Below w.heap.size w W → Calls Tryz.prog 56 #[.agg #[.string m.name, .int .i64 m.ver.major, .int .i64 m.ver.minor, .int .i64 m.ver.patch, .slice yA m.ctx.length yc, .slice fA m.edges.length fc], .string s] W fun e w' => e = .returned (.bool (m.ctx.any fun x => decide (x.name = s))) ∧ Below W.heap.size W w') := fun W hW => refBeside_any _ _ _ _ _ _ _ _ _ _ _ _ _ _ (hpin.belowSize hW)
  have hxp : packAt C.q tn = x := by unfold packAt; rw [List.getD_eq_getElem?_getD, hx]; rfl
  have hnp : nodeAt C.q tn = n := by unfold nodeAt; rw [List.getD_eq_getElem?_getD, hn]; rfl
  have HHm : Hid (kindP C.q m ⟨s, (tn : Int)⟩ = kind → ∃ (i : Nat) (f : Dir), homeP C.q st at_ kind ⟨s, (tn : Int)⟩ = (i : Int) ∧ st.1[i]? = some f ∧ f.path.length ≤ 1024) := fun hkk => by
    obtain ⟨i, f, h1, h2, h3, h4⟩ := homeP_ok hinv hd kind (e := ⟨s, (tn : Int)⟩) (hsd hkk)
    exact ⟨i, f, h1, h2, hlenD f (List.mem_of_getElem? h2)⟩
  have Hh2 : Hid (kind = 2 → homeP C.q st at_ kind ⟨s, (tn : Int)⟩ = spotI st.1 st.2 C.q.old d.path s x) := fun h => by
    unfold homeP; rw [if_pos h, pathAt_of hd, Int.toNat_natCast, hxp]
  have Hh3 : Hid (kind ≠ 2 → homeP C.q st at_ kind ⟨s, (tn : Int)⟩ = (at_ : Int)) := fun h => by
    unfold homeP; rw [if_neg h]
  have HK1 : Hid ((m.ctx.any fun x => decide (x.name = s)) = true → kindP C.q m ⟨s, (tn : Int)⟩ = 1) := kindP_1 C.q m ⟨s, (tn : Int)⟩
  have HK2 : Hid ((m.ctx.any fun x => decide (x.name = s)) = false → kindP C.q m ⟨s, (tn : Int)⟩ = if n.ctx.length = 0 then 2 else 3) := fun h => by
    rw [kindP_2 C.q m ⟨s, (tn : Int)⟩ h]; show (if (nodeAt C.q (tn : Int).toNat).ctx.length = 0 then 2 else 3) = _; rw [Int.toNat_natCast, hnp]
  obtain ⟨k3, hk3⟩ : ∃ b, ((kind : Int) == 3) = b := ⟨_, rfl⟩
  obtain ⟨k2, hk2⟩ : ∃ b, ((kind : Int) == 2) = b := ⟨_, rfl⟩
  obtain ⟨k1, hk1⟩ : ∃ b, ((kind : Int) == 1) = b := ⟨_, rfl⟩
  have Hkk : Hid ((k3 = true ↔ kind = 3) ∧ (k2 = true ↔ kind = 2) ∧ (k1 = true ↔ kind = 1)) := by
    subst hk3 hk2 hk1
    simp only [beq_iff_eq]
    exact ⟨⟨fun h => by omega, fun h => by omega⟩, ⟨fun h => by omega, fun h => by omega⟩, ⟨fun h => by omega, fun h => by omega⟩⟩
  have Hrt : Hid (rightP C.q st at_ kind ⟨s, (tn : Int)⟩ = (decide (0 ≤ lookI st.1 (at_ : Int) s) && (decide ((dirAt st.1 (lookI st.1 (at_ : Int) s).toNat).node = (tn : Int)) && (!k3 || seesB C.q.g st.1 st.2 (lookI st.1 (at_ : Int) s).toNat at_)))) := rightP_eq _ _ _ _ _ (!k3) (by
    by_cases h : kind = 3
    · rw [Hkk.out.1.2 h, decide_eq_false (by omega)]; rfl
    · have : k3 = false := by cases hh : k3 with
        | false => rfl
        | true => exact absurd (Hkk.out.1.1 hh) h
      rw [this, decide_eq_true h]; rfl)
  have Hlt : Hid (0 ≤ lookI st.1 (at_ : Int) s → (lookI st.1 (at_ : Int) s).toNat < st.1.length) := look_lt
  have HDn : Hid (∀ W (j : Nat), Below w.heap.size w W → j < st.1.length → W.cell? ⟨b, o + j * 9 + 8, none⟩ = some (.int .i64 (dirAt st.1 j).node)) := fun W j hW hj => by
    obtain ⟨b', o', _, _, h1, _, _, h2, _⟩ := (hr.keep hW).dir (dirAt_some hj)
    injection h1 with h1
    injection h1 with h3 h4 _
    subst h3 h4
    exact h2
  have HX : Hid (∀ W, Below w.heap.size w W → W.cell? ⟨C.P, 0, none⟩ = some (.slice (some ⟨gb, go, none⟩) C.gn C.gc) ∧ W.cell? ⟨gb, go + tn * 6 + 4, none⟩ = some (.slice xA n.ctx.length xc) ∧ W.cell? ⟨C.P, 8, none⟩ = some (.slice (some ⟨b, o, none⟩) st.1.length c)) := fun W hW => ⟨by rw [← hgA]; exact below_cell hW hr.c0 hHP, below_cell hW n4 hgw, below_cell hW hr.c8 hHP⟩
  have HM : Hid (∀ W, Below w.heap.size w W → W.cell? ⟨b, o + at_ * 9 + 8, none⟩ = some (.int .i64 (mn : Int)) ∧ W.cell? ⟨gb, go + mn * 6, none⟩ = some (.string m.name) ∧ W.cell? ⟨gb, go + mn * 6 + 1, none⟩ = some (.int .i64 m.ver.major) ∧ W.cell? ⟨gb, go + mn * 6 + 2, none⟩ = some (.int .i64 m.ver.minor) ∧ W.cell? ⟨gb, go + mn * 6 + 3, none⟩ = some (.int .i64 m.ver.patch) ∧ W.cell? ⟨gb, go + mn * 6 + 4, none⟩ = some (.slice yA m.ctx.length yc) ∧ W.cell? ⟨gb, go + mn * 6 + 5, none⟩ = some (.slice fA m.edges.length fc)) := fun W hW =>
    ⟨below_cell hW y8 hb, below_cell hW g0 hgw, below_cell hW g1 hgw, below_cell hW g2 hgw, below_cell hW g3 hgw, below_cell hW g4 hgw, below_cell hW g5 hgw⟩
  have HPu : Hid (∀ W (i : Nat) (f : Dir), DlWd C W st → st.1[i]? = some f → f.path.length ≤ 1024 → Calls Tryz.prog 60 #[.pointer (some ⟨C.P, 0, none⟩), .int .i64 (i : Int), .int .i64 (tn : Int)] W fun e w' =>
      (∃ c, putP C.q st.1 i tn = .error c ∧ e = .returned (.tuple #[.int .i64 0, .int .i64 c]) ∧ DlWd C w' st ∧ DlFr C W w') ∨ (∃ T, putP C.q st.1 i tn = .ok T ∧ e = .returned (.tuple #[.int .i64 (st.1.length : Int), .int .i64 0]) ∧ DlWd C w' (T, st.2) ∧ DlFr C W w')) := fun W i f hW hf hfl => putD_any C hC W st hW i tn hf hn hx hnx hll hfl (by have := (List.getElem?_eq_some_iff.1 hx).1; have := hC.pz; omega)
  have HE0 : Hid (rightP C.q st at_ kind ⟨s, (tn : Int)⟩ = false → kind = 1 → stepE C.q at_ kind ⟨s, (tn : Int)⟩ st = .error 33) := fun h h1 => by subst h1; exact stepE_33 h
  have HE1 : Hid (rightP C.q st at_ kind ⟨s, (tn : Int)⟩ = true → stepE C.q at_ kind ⟨s, (tn : Int)⟩ st = .ok (st.1, st.2 ++ [⟨at_, s, (lookI st.1 (at_ : Int) s).toNat⟩])) := stepE_right
  have HE2 : Hid (∀ (i : Nat) (c : Int), rightP C.q st at_ kind ⟨s, (tn : Int)⟩ = false → kind ≠ 1 → homeP C.q st at_ kind ⟨s, (tn : Int)⟩ = (i : Int) → putP C.q st.1 i tn = .error c → stepE C.q at_ kind ⟨s, (tn : Int)⟩ st = .error c) := fun i c h1 h0 h2 h3 => stepE_err h1 h0 (by rw [h2, Int.toNat_natCast, Int.toNat_natCast]; exact h3)
  have HE3 : Hid (∀ (i : Nat) (T : List Dir), rightP C.q st at_ kind ⟨s, (tn : Int)⟩ = false → kind ≠ 1 → homeP C.q st at_ kind ⟨s, (tn : Int)⟩ = (i : Int) → putP C.q st.1 i tn = .ok T → stepE C.q at_ kind ⟨s, (tn : Int)⟩ st = .ok (T, st.2 ++ [⟨at_, s, st.1.length⟩])) := fun i T h1 h0 h2 h3 => stepE_put h1 h0 (by rw [h2, Int.toNat_natCast, Int.toNat_natCast]; exact h3)
  have HSl : Hid (∀ (wx : World) (T : List Dir) (j : Nat), DlWd C wx (T, st.2) → DlFr C w wx → _) := fun wx T j h1 h2 => stl_law C hC h1 h2 at_ j s
  clear hsd hr hw hC hn hx hm hk hbase hgA hgb n0 n1 n2 n3 n4 n5 g0 g1 g2 g3 g4 g5 y8 hinv hxp hnp hd hdn hlenD hns hnx hpin
  obtain ⟨N, hN⟩ : ∃ N, N = st.1.length := ⟨_, rfl⟩
  rw [← hN] at hat hll HLk HX Hlt HBs HDn HE3 HPu
  have HN := Lib.hid hN
  clear hN
  generalize stepE C.q at_ kind ⟨s, (tn : Int)⟩ st = R at *
  generalize rightP C.q st at_ kind ⟨s, (tn : Int)⟩ = rt at *
  generalize homeP C.q st at_ kind ⟨s, (tn : Int)⟩ = hm at *
  generalize kindP C.q m ⟨s, (tn : Int)⟩ = K at *
  generalize lookI st.1 (at_ : Int) s = L at *
  generalize (m.ctx.any fun x => decide (x.name = s)) = bes at *
  obtain ⟨m4, hm4⟩ : ∃ k, k = n.ctx.length := ⟨_, rfl⟩
  rw [← hm4] at HX HK2
  obtain ⟨l4, hl4⟩ : ∃ k, k = m.ctx.length := ⟨_, rfl⟩
  obtain ⟨l5, hl5⟩ : ∃ k, k = m.edges.length := ⟨_, rfl⟩
  rw [← hl4, ← hl5] at HM HBe
  generalize m.name = m0 at *
  generalize m.ver.major = m1 at *
  generalize m.ver.minor = m2 at *
  generalize m.ver.patch = m3 at *
  clear hm4 hl4 hl5
  have hat0 : (0 : Int) ≤ (at_ : Int) := by omega
  have hatN : (at_ : Int) < (N : Int) := by omega
  have htn0 : (0 : Int) ≤ (tn : Int) := by omega
  have htg : (tn : Int) < (C.gn : Int) := by omega
  have hmn0 : (0 : Int) ≤ (mn : Int) := by omega
  have hmg : (mn : Int) < (C.gn : Int) := by omega
  go_enter Tryz.func29, Tryz.ntmps29
  go_upto_region 1 with (fail)
  obtain ⟨w1, hw1⟩ : ∃ w1, w1 = w.alloc (.cells #[.string s, .int .i64 (tn : Int)] 61) := ⟨_, rfl⟩
  have hq1 : w1.heap[w.heap.size]? = some (.cells #[.string s, .int .i64 (tn : Int)] 61 (0, 0)) := by rw [hw1]; exact heap_new _ _
  have hB1 : Below w.heap.size w w1 := by rw [hw1]; exact bal (Below.refl _ _) _
  rw [← hw1]
  have HB1 := Lib.hid hB1
  have hz1 : w.heap.size < w1.heap.size := (Array.getElem?_eq_some_iff.1 hq1).1
  obtain ⟨EB, hEB⟩ : ∃ k, k = w.heap.size := ⟨_, rfl⟩
  rw [← hEB] at hq1 hz1 ⊢
  have He : Hid (∀ W, Below w1.heap.size w1 W → W.cell? ⟨EB, 0, none⟩ = some (.string s) ∧ W.cell? ⟨EB, 1, none⟩ = some (.int .i64 (tn : Int))) := fun W hW => ⟨below_cell hW (cell_of_row _ _ 0 _ _ _ hq1) hz1, below_cell hW (cell_of_row _ _ 1 _ _ _ hq1) hz1⟩
  have HNE : Hid (∀ W, Below w.heap.size w W → NotDl C W EB) := fun W hW => by
    obtain ⟨A2, c2, A2', c2', S2, hpp⟩ := HW.out.parts
    have hk := hpp.keep hW
    refine ⟨by omega, fun v hv e => ?_, fun v hv e => ?_⟩
    · rw [cell_of_row _ _ 8 _ _ _ hk.row] at hv
      cases hv
      have := (hpp.T.lt _ e).2; omega
    · rw [cell_of_row _ _ 9 _ _ _ hk.row] at hv
      cases hv
      have := (hpp.S'.lt _ e).2; omega
  clear hw1 hq1 hB1 hEB
  obtain ⟨x0, x4, x8⟩ := HX.out w1 HB1.out
  obtain ⟨y8, g0, g1, g2, g3, g4, g5⟩ := HM.out w1 HB1.out
  go_cut [9] from 16 to 32 (fun nv wx => ∃ NB : Nat, nv = .pointer (some ⟨NB, 0, none⟩) ∧ Hid (Below w1.heap.size w1 wx ∧ w1.heap.size ≤ NB ∧
      wx.heap[NB]? = some (.cells #[.string m0, .int .i64 m1, .int .i64 m2, .int .i64 m3, .slice yA l4 yc, .slice fA l5 fc] 58 (0, 0))))
  case first =>
    go_region_held3 (fun w' => w'.cell? ⟨C.P, 0, none⟩ = some (.slice (some ⟨gb, go, none⟩) C.gn C.gc) ∧ w'.cell? ⟨C.P, 8, none⟩ = some (.slice (some ⟨b, o, none⟩) N c) ∧ w'.cell? ⟨b, o + at_ * 9 + 8, none⟩ = some (.int .i64 (mn : Int)) ∧ w'.cell? ⟨gb, go + mn * 6, none⟩ = some (.string m0) ∧ w'.cell? ⟨gb, go + mn * 6 + 1, none⟩ = some (.int .i64 m1) ∧ w'.cell? ⟨gb, go + mn * 6 + 2, none⟩ = some (.int .i64 m2) ∧ w'.cell? ⟨gb, go + mn * 6 + 3, none⟩ = some (.int .i64 m3) ∧ w'.cell? ⟨gb, go + mn * 6 + 4, none⟩ = some (.slice yA l4 yc) ∧ w'.cell? ⟨gb, go + mn * 6 + 5, none⟩ = some (.slice fA l5 fc))
      (first | go_keep)
      (first | fail)
    all_goals
      go_wp2_with fail
      go_meet
      exact ⟨_, rfl, (one_newD w1 _).1, Nat.le_refl _, (one_newD w1 _).2⟩
  case rest =>
  obtain ⟨NB, rfl, HN1⟩ := hcut
  generalize wc = w2 at *
  have HB2 := Lib.hid HN1.out.1
  have hrow2 := HN1.out.2.2
  have d0 := cell_of_row _ _ 0 _ _ _ hrow2
  have d1 := cell_of_row _ _ 1 _ _ _ hrow2
  have d2 := cell_of_row _ _ 2 _ _ _ hrow2
  have d3 := cell_of_row _ _ 3 _ _ _ hrow2
  have d4 := cell_of_row _ _ 4 _ _ _ hrow2
  have d5 := cell_of_row _ _ 5 _ _ _ hrow2
  obtain ⟨e0, e1⟩ := He.out w2 HB2.out
  have Hbe := Lib.hid (HBe.out w2 (bot HB1.out HB2.out))
  clear x0 x4 x8 y8 g0 g1 g2 g3 g4 g5 HN1 hrow2
  go_wp2_with fail
  refine Hbe.out.mono ?_
  rintro e w3 ⟨rfl, B3⟩
  have HB3 := Lib.hid (bot HB2.out B3)
  clear d0 d1 d2 d3 d4 d5 e0 e1 Hbe B3 HB2
  obtain ⟨x0, x4, x8⟩ := HX.out w3 (bot HB1.out HB3.out)
  obtain ⟨e0, e1⟩ := He.out w3 HB3.out
  go_upto_if 38 with fail
  go_cut [10] from 37 to 50 (fun kv wx => kv = .int .i64 (K : Int) ∧ Hid (Below w1.heap.size w1 wx))
  case first =>
    cases bes with
    | true =>
      have hK : K = 1 := HK1.out rfl
      subst hK
      go_wp2_with fail
      go_meet
      exact ⟨rfl, HB3⟩
    | false =>
      have hK := HK2.out rfl
      go_upto_region 6 with (fail)
      by_cases h4 : m4 = 0
      · rw [if_pos h4] at hK
        subst hK
        have hD2 : decide ((0 : Int) < (m4 : Int)) = false := decide_eq_false (by omega)
        have r_x0 := cell_regrown x0
        have r_x4 := cell_regrown x4
        have r_e1 := cell_regrown e1
        go_wp2_with fail
        refine wp_region_qb (by kernel_rfl) (by kernel_rfl) ?_
        repeat (go_big_quiet_step (first | fail))
        refine wpQuiet_nil ?_
        intro w4 B4
        have HB4 := Lib.hid (bot HB3.out B4)
        go_wp2_with fail
        go_meet
        exact ⟨rfl, HB4⟩
      · rw [if_neg h4] at hK
        subst hK
        have hD2 : decide ((0 : Int) < (m4 : Int)) = true := decide_eq_true (by omega)
        have r_x0 := cell_regrown x0
        have r_x4 := cell_regrown x4
        have r_e1 := cell_regrown e1
        go_wp2_with fail
        refine wp_region_qb (by kernel_rfl) (by kernel_rfl) ?_
        repeat (go_big_quiet_step (first | fail))
        refine wpQuiet_nil ?_
        intro w4 B4
        have HB4 := Lib.hid (bot HB3.out B4)
        go_wp2_with fail
        go_meet
        exact ⟨rfl, HB4⟩
  case rest =>
  obtain ⟨hkv, HB4⟩ := hcut
  generalize wc = w4 at *
  subst hkv
  have HBw4 := Lib.hid (bot HB1.out HB4.out)
  clear HM HBe HK1 HK2 x0 x4 x8 e0 e1
  by_cases hKk : K = kind
  case neg =>
    have hb1 : ((K : Int) != (kind : Int)) = true := by
      show (!((K : Int) == (kind : Int))) = true
      rw [beq_eq_false_iff_ne.2 (by omega)]; rfl
    go_wp2_with fail
    go_ret
    exact Or.inl ⟨hKk, rfl, HW.out.keep HBw4.out, DlFr.below hHP HBw4.out⟩
  subst hKk
  have HHm2 := Lib.hid (HHm.out rfl)
  clear HHm
  have HHm := HHm2
  clear HHm2
  have hb1 : ((K : Int) != (K : Int)) = false := by
    show (!((K : Int) == (K : Int))) = false
    rw [beq_self_eq_true]; rfl
  obtain ⟨x0, x4, x8⟩ := HX.out w4 HBw4.out
  obtain ⟨e0, e1⟩ := He.out w4 HB4.out
  have HLq := Lib.hid (qcall (w := w4) (fun W hW => HLk.out W (bot HBw4.out hW)))
  clear HLk HX
  go_upto_region 10 with (fail)
  have r_x8 := cell_regrown x8
  have r_e0 := cell_regrown e0
  go_wp2_with fail
  refine wp_region_qb (by kernel_rfl) (by kernel_rfl) ?_
  repeat (go_big_quiet_step (first | (with_reducible exact HLq.out _ _)))
  refine wpQuiet_nil ?_
  intro w5 B5
  have HB5 := Lib.hid (bot HB4.out B5)
  have HB45 := Lib.hid (bot HBw4.out B5)
  have z8 := below_cell B5 x8 (Nat.lt_of_lt_of_le hHP HBw4.out.size)
  obtain ⟨z0, z1⟩ := He.out w5 HB5.out
  clear r_x8 r_e0 x0 x4 x8 e0 e1 B5 HLq
  go_upto_region 11 with (fail)
  obtain ⟨rb, hrb⟩ : ∃ rb, rb = (decide (0 ≤ L) && decide ((dirAt st.1 L.toNat).node = (tn : Int))) := ⟨_, rfl⟩
  have Hrb := Lib.hid hrb
  have hrt1 : rt = (rb && (!k3 || seesB C.q.g st.1 st.2 L.toNat at_)) := by rw [Hrt.out, hrb, Bool.and_assoc]
  clear hrb Hrt
  have Hrt := Lib.hid hrt1
  clear hrt1
  go_cut [13] from 62 to 77 (fun bv wx => bv = .bool rb ∧ Hid (Below w5.heap.size w5 wx))
  case first =>
    by_cases hL : 0 ≤ L
    case neg =>
      have hr : rb = false := by rw [Hrb.out, decide_eq_false hL]; rfl
      have hLd : decide (0 ≤ L) = false := decide_eq_false hL
      clear hL Hrb Hrt
      subst hr
      have r_z8 := cell_regrown z8
      have r_z1 := cell_regrown z1
      go_wp2_with fail
      refine wp_region_qb (by kernel_rfl) (by kernel_rfl) ?_
      repeat (go_big_quiet_step (first | fail))
      refine wpQuiet_nil ?_
      intro w6 B6
      have HB6 := Lib.hid B6
      go_wp2_with fail
      go_meet
      exact ⟨rfl, HB6⟩
    obtain ⟨j, hj⟩ : ∃ j : Nat, L = (j : Int) := ⟨L.toNat, by omega⟩
    subst hj
    have hjN : j < N := Hlt.out hL
    have y8 := HDn.out w5 j HB45.out hjN
    have hLd : decide (0 ≤ (j : Int)) = true := decide_eq_true hL
    have hjI : (j : Int) < (N : Int) := by omega
    rw [Int.toNat_natCast, decide_eq_true hL, Bool.true_and] at Hrb
    clear Hrt
    generalize (dirAt st.1 j).node = nj at *
    by_cases hn : nj = (tn : Int)
    · have hr : rb = true := by rw [Hrb.out, decide_eq_true hn]
      have hb1 : (nj == (tn : Int)) = true := by rw [hn, beq_self_eq_true]
      clear Hrb hn
      subst hr
      have r_z8 := cell_regrown z8
      have r_z1 := cell_regrown z1
      have r_y8 := cell_regrown y8
      go_wp2_with fail
      refine wp_region_qb (by kernel_rfl) (by kernel_rfl) ?_
      repeat (go_big_quiet_step (first | fail))
      refine wpQuiet_nil ?_
      intro w6 B6
      have HB6 := Lib.hid B6
      go_wp2_with fail
      go_meet
      exact ⟨rfl, HB6⟩
    · have hr : rb = false := by rw [Hrb.out, decide_eq_false hn]
      have hb1 : (nj == (tn : Int)) = false := beq_eq_false_iff_ne.2 hn
      clear Hrb hn
      subst hr
      have r_z8 := cell_regrown z8
      have r_z1 := cell_regrown z1
      have r_y8 := cell_regrown y8
      go_wp2_with fail
      refine wp_region_qb (by kernel_rfl) (by kernel_rfl) ?_
      repeat (go_big_quiet_step (first | fail))
      refine wpQuiet_nil ?_
      intro w6 B6
      have HB6 := Lib.hid B6
      go_wp2_with fail
      go_meet
      exact ⟨rfl, HB6⟩
  case rest =>
  obtain ⟨hbv, HB6⟩ := hcut
  generalize wc = w6 at *
  subst hbv
  clear z8 z0 z1
  obtain ⟨qc, hqc⟩ : ∃ qc, qc = (rb && k3) := ⟨_, rfl⟩
  have HBw6 := Lib.hid (bot HB45.out HB6.out)
  go_upto_region 12 with (fail)
  go_cut [82] from 78 to 82 (fun bv wx => bv = .bool qc ∧ wx = w6)
  case first =>
    cases rb <;> cases k3
    all_goals
      subst hqc
      go_wp2_with fail
      go_meet
      exact ⟨rfl, rfl⟩
  case rest =>
  obtain ⟨hbv, hwc⟩ := hcut
  subst hbv
  subst hwc
  generalize wc = w6 at *
  go_upto_if 82 with fail
  go_cut [13] from 83 to 86 (fun bv wx => bv = .bool rt ∧ Hid (Below w5.heap.size w5 wx))
  case first =>
    cases qc with
    | false =>
      have hr : rt = rb := by
        rw [Hrt.out]
        cases rb with
        | false => rfl
        | true => cases k3 with
          | false => rfl
          | true => cases hqc
      clear Hrt
      go_wp2_with fail
      go_meet
      exact ⟨by rw [hr], HB6⟩
    | true =>
      have h2 : rb = true ∧ k3 = true := by
        have := hqc.symm
        rwa [Bool.and_eq_true] at this
      have hr : rt = seesB C.q.g st.1 st.2 L.toNat at_ := by rw [Hrt.out, h2.1, h2.2]; rfl
      have hLL : 0 ≤ L ∧ (dirAt st.1 L.toNat).node = (tn : Int) := by
        have := Hrb.out
        rw [h2.1] at this
        have h3 := this.symm
        rw [Bool.and_eq_true, decide_eq_true_eq, decide_eq_true_eq] at h3
        exact h3
      obtain ⟨j, hj⟩ : ∃ j : Nat, L = (j : Int) := ⟨L.toNat, by omega⟩
      have hjN : j < N := by have := Hlt.out hLL.1; omega
      have Hb := Lib.hid (HBs.out w6 j HBw6.out hjN (by have := hLL.2; rw [hj, Int.toNat_natCast] at this; exact this))
      rw [hj, Int.toNat_natCast] at hr
      clear Hrt Hrb hLL hqc
      subst hj
      go_wp2_with fail
      refine Hb.out.mono ?_
      rintro e w7 ⟨rfl, B7⟩
      have HB7 := Lib.hid (bot HB6.out B7)
      clear B7 Hb
      go_wp2_with fail
      go_meet
      exact ⟨by rw [hr], HB7⟩
  case rest =>
  obtain ⟨hbv, HB7⟩ := hcut
  generalize wc = w7 at *
  subst hbv
  clear hqc
  have HB17 := Lib.hid (bot HB5.out HB7.out)
  have HBw7 := Lib.hid (bot HB45.out HB7.out)
  obtain ⟨e0, e1⟩ := He.out w7 HB17.out
  cases hrt : rt with
  | true =>
    have hL : 0 ≤ L := by
      have h1 := Hrt.out
      rw [hrt] at h1
      have h2 := Hrb.out
      have h3 : rb = true := by
        cases h : rb with
        | true => rfl
        | false => rw [h] at h1; cases h1
      rw [h3] at h2
      by_cases h : 0 ≤ L
      · exact h
      · rw [decide_eq_false h] at h2; cases h2
    have hR := HE1.out hrt
    have hjN : L.toNat < N := Hlt.out hL
    obtain ⟨j, hj⟩ : ∃ j : Nat, L = (j : Int) := ⟨L.toNat, by omega⟩
    subst hj
    rw [Int.toNat_natCast] at hR hjN
    have HR := Lib.hid hR
    clear hR hL Hlt HDn HBs Hrt Hrb HPu HBt HE1 HE2 HE3
    obtain ⟨A9, c9, x9, hOw, hPd, hzc, hzP⟩ := HSl.out w7 st.1 j (HW.out.keep HBw7.out) (DlFr.below hHP HBw7.out)
    have hi6 : at_ ≤ 1000000 := by omega
    have hj6 : j ≤ 1000000 := by omega
    have HOw := Lib.hid hOw
    have HPd := Lib.hid hPd
    clear hOw hPd HSl
    go_upto_region 24 with (fail)
    go_cut [] from 114 to 127 (fun wq => Hid (DlWd C wq (st.1, st.2 ++ [⟨at_, s, j⟩]) ∧ DlFr C w wq))
    case first =>
      go_region_law
       (first
        | (refine step_push (by rfl) _ _ _ (by rfl) elt_stlD Tryz.underlying85 (by rfl) (HOw.out w7.drew _ (Below.refl _ _).drew) ⟨w7.heap.size, 0, none⟩ 1 [.int .i64 (at_ : Int), .string s, .int .i64 (j : Int)] ⟨at_, s, j⟩ (by rfl) ⟨rfl, hsz, hi6, hj6⟩ (news_of w7.drew #[.int .i64 (at_ : Int), .string s, .int .i64 (j : Int)] _) (by unfold maxLen; omega) (by omega) (Nat.le_trans hzc (by simp)) (w7.heap.size + 1) (by simp) ?_; intro g8 cap8 w8 hown8 hgrow8 hat8 hg8; have HD := Lib.hid (HPd.out w7.drew w8 _ g8 cap8 (Below.refl _ _).drew hown8 hgrow8 hat8); have y9 := HD.out.1; have f9 := HD.out.2.1; clear hown8 hgrow8 hat8))
      all_goals
        go_wp2_with fail
        go_meet
        exact HD.out.2.2
    case rest =>
    have Hcut := Lib.hid hcut.out
    clear x9 e0 hcut HOw HPd
    go_wp2_with fail
    go_ret
    exact Or.inr ⟨rfl, Or.inr ⟨_, HR.out, rfl, Hcut.out.1, Hcut.out.2⟩⟩
  | false =>
    cases hkk1 : k1 with
    | true =>
      have hR := Lib.hid (HE0.out hrt (Hkk.out.2.2.1 hkk1))
      subst hkk1
      go_wp2_with fail
      go_ret
      exact Or.inr ⟨rfl, Or.inl ⟨_, hR.out, rfl, by decide, HW.out.keep HBw7.out, DlFr.below hHP HBw7.out⟩⟩
    | false =>
    have hn1 : K ≠ 1 := fun h => by
      have := Hkk.out.2.2.2 h
      rw [hkk1] at this; cases this
    obtain ⟨i, f, hmi, hfi, hfl⟩ := HHm.out
    have Hpu : Hid (∀ W, DlWd C W st → Calls Tryz.prog 60 #[.pointer (some ⟨C.P, 0, none⟩), .int .i64 (i : Int), .int .i64 (tn : Int)] W fun e w' =>
      (∃ c, R = .error c ∧ (c = 40 ∨ c = 41) ∧ e = .returned (.tuple #[.int .i64 0, .int .i64 c]) ∧ Hid (DlWd C w' st ∧ DlFr C W w')) ∨ (∃ T, R = .ok (T, st.2 ++ [⟨at_, s, N⟩]) ∧ e = .returned (.tuple #[.int .i64 (N : Int), .int .i64 0]) ∧ Hid (DlWd C w' (T, st.2) ∧ DlFr C W w'))) := fun W hW => by
      refine (HPu.out W i f hW hfi hfl).mono ?_
      rintro e w' (⟨c, h1, h2, h3⟩ | ⟨T, h1, h2, h3⟩)
      · exact .inl ⟨c, HE2.out i c hrt hn1 hmi h1, putP_err h1, h2, h3⟩
      · exact .inr ⟨T, HE3.out i T hrt hn1 hmi h1, h2, h3⟩
    cases hkk2 : k2 with
    | true =>
      have hsp : hm = spotI st.1 st.2 C.q.old d.path s x := Hh2.out (Hkk.out.2.1.1 hkk2)
      rw [hmi] at hsp
      rw [← hsp] at HBt
      subst hkk1 hkk2
      clear hsp hmi hfi Hkk Hh2 Hh3 Hrt Hrb HPu HE1 HE2 HE3 HE0
      go_wp2_with fail
      refine (HBt.out w7 HBw7.out).mono ?_
      rintro e wy ⟨rfl, hb9⟩
      have HBx := Lib.hid (bot HBw7.out hb9)
      have HB1x := Lib.hid (bot HB17.out hb9)
      clear e0 e1
      obtain ⟨e0, e1⟩ := He.out wy HB1x.out
      clear hb9
      go_wp2_with fail
      have hNE : NotDl C wy EB := HNE.out wy HBx.out
      refine (Hpu.out wy (HW.out.keep HBx.out)).mono ?_
      rintro e w9 (⟨c, hR, hc, rfl, HW9⟩ | ⟨T, hR, rfl, HW9⟩)
      · have HF9 := Lib.hid ((DlFr.below hHP HBx.out).trans HW9.out.2)
        rcases hc with rfl | rfl
        · go_wp2_with fail
          go_ret
          exact Or.inr ⟨rfl, Or.inl ⟨_, hR, rfl, by decide, HW9.out.1, HF9.out⟩⟩
        · go_wp2_with fail
          go_ret
          exact Or.inr ⟨rfl, Or.inl ⟨_, hR, rfl, by decide, HW9.out.1, HF9.out⟩⟩
      · have HR := Lib.hid hR
        have HF9 := Lib.hid ((DlFr.below hHP HBx.out).trans HW9.out.2)
        have hzx : EB < wy.heap.size := Nat.lt_of_lt_of_le hz1 HB1x.out.size
        have e2 : w9.cell? ⟨EB, 0, none⟩ = some (.string s) := (cell_same (HW9.out.2.2 EB hzx hNE).1 0 none).trans e0
        have hz9 : EB < w9.heap.size := Nat.lt_of_lt_of_le hzx HW9.out.2.1
        clear hR Hpu e0 e1 hNE hzx
        have e0 := e2
        clear e2
        obtain ⟨A9, c9, x9, hOw, hPd, hzc, hzP⟩ := HSl.out w9 T N HW9.out.1 HF9.out
        have hi6 : at_ ≤ 1000000 := by omega
        have hj6 : N ≤ 1000000 := by omega
        have HOw := Lib.hid hOw
        have HPd := Lib.hid hPd
        clear hOw hPd HSl
        go_upto_region 24 with (fail)
        go_cut [] from 114 to 127 (fun wq => Hid (DlWd C wq (T, st.2 ++ [⟨at_, s, N⟩]) ∧ DlFr C w wq))
        case first =>
          go_region_law
           (first
            | (refine step_push (by rfl) _ _ _ (by rfl) elt_stlD Tryz.underlying85 (by rfl) (HOw.out w9.drew _ (Below.refl _ _).drew) ⟨w9.heap.size, 0, none⟩ 1 [.int .i64 (at_ : Int), .string s, .int .i64 (N : Int)] ⟨at_, s, N⟩ (by rfl) ⟨rfl, hsz, hi6, hj6⟩ (news_of w9.drew #[.int .i64 (at_ : Int), .string s, .int .i64 (N : Int)] _) (by unfold maxLen; omega) (by omega) (Nat.le_trans hzc (by simp)) (w9.heap.size + 1) (by simp) ?_; intro g8 cap8 w8 hown8 hgrow8 hat8 hg8; have HD := Lib.hid (HPd.out w9.drew w8 _ g8 cap8 (Below.refl _ _).drew hown8 hgrow8 hat8); have y9 := HD.out.1; have f9 := HD.out.2.1; clear hown8 hgrow8 hat8))
          all_goals
            go_wp2_with fail
            go_meet
            exact HD.out.2.2
        case rest =>
        have Hcut := Lib.hid hcut.out
        clear x9 e0 hcut HOw HPd
        go_wp2_with fail
        go_ret
        exact Or.inr ⟨rfl, Or.inr ⟨_, HR.out, rfl, Hcut.out.1, Hcut.out.2⟩⟩
    | false =>
      have hsp : hm = (at_ : Int) := Hh3.out (fun h => by
        have := Hkk.out.2.1.2 h
        rw [hkk2] at this; cases this)
      have hia : at_ = i := by omega
      subst hia
      subst hkk1 hkk2
      clear hsp hmi hfi Hkk Hh2 Hh3 Hrt Hrb HPu HBt HE1 HE2 HE3 HE0
      have HBx := HBw7
      have HB1x := HB17
      go_wp2_with fail
      have hNE : NotDl C w7 EB := HNE.out w7 HBx.out
      refine (Hpu.out w7 (HW.out.keep HBx.out)).mono ?_
      rintro e w9 (⟨c, hR, hc, rfl, HW9⟩ | ⟨T, hR, rfl, HW9⟩)
      · have HF9 := Lib.hid ((DlFr.below hHP HBx.out).trans HW9.out.2)
        rcases hc with rfl | rfl
        · go_wp2_with fail
          go_ret
          exact Or.inr ⟨rfl, Or.inl ⟨_, hR, rfl, by decide, HW9.out.1, HF9.out⟩⟩
        · go_wp2_with fail
          go_ret
          exact Or.inr ⟨rfl, Or.inl ⟨_, hR, rfl, by decide, HW9.out.1, HF9.out⟩⟩
      · have HR := Lib.hid hR
        have HF9 := Lib.hid ((DlFr.below hHP HBx.out).trans HW9.out.2)
        have hzx : EB < w7.heap.size := Nat.lt_of_lt_of_le hz1 HB1x.out.size
        have e2 : w9.cell? ⟨EB, 0, none⟩ = some (.string s) := (cell_same (HW9.out.2.2 EB hzx hNE).1 0 none).trans e0
        have hz9 : EB < w9.heap.size := Nat.lt_of_lt_of_le hzx HW9.out.2.1
        clear hR Hpu e0 e1 hNE hzx
        have e0 := e2
        clear e2
        obtain ⟨A9, c9, x9, hOw, hPd, hzc, hzP⟩ := HSl.out w9 T N HW9.out.1 HF9.out
        have hi6 : at_ ≤ 1000000 := by omega
        have hj6 : N ≤ 1000000 := by omega
        have HOw := Lib.hid hOw
        have HPd := Lib.hid hPd
        clear hOw hPd HSl
        go_upto_region 24 with (fail)
        go_cut [] from 114 to 127 (fun wq => Hid (DlWd C wq (T, st.2 ++ [⟨at_, s, N⟩]) ∧ DlFr C w wq))
        case first =>
          go_region_law
           (first
            | (refine step_push (by rfl) _ _ _ (by rfl) elt_stlD Tryz.underlying85 (by rfl) (HOw.out w9.drew _ (Below.refl _ _).drew) ⟨w9.heap.size, 0, none⟩ 1 [.int .i64 (at_ : Int), .string s, .int .i64 (N : Int)] ⟨at_, s, N⟩ (by rfl) ⟨rfl, hsz, hi6, hj6⟩ (news_of w9.drew #[.int .i64 (at_ : Int), .string s, .int .i64 (N : Int)] _) (by unfold maxLen; omega) (by omega) (Nat.le_trans hzc (by simp)) (w9.heap.size + 1) (by simp) ?_; intro g8 cap8 w8 hown8 hgrow8 hat8 hg8; have HD := Lib.hid (HPd.out w9.drew w8 _ g8 cap8 (Below.refl _ _).drew hown8 hgrow8 hat8); have y9 := HD.out.1; have f9 := HD.out.2.1; clear hown8 hgrow8 hat8))
          all_goals
            go_wp2_with fail
            go_meet
            exact HD.out.2.2
        case rest =>
        have Hcut := Lib.hid hcut.out
        clear x9 e0 hcut HOw HPd
        go_wp2_with fail
        go_ret
        exact Or.inr ⟨rfl, Or.inr ⟨_, HR.out, rfl, Hcut.out.1, Hcut.out.2⟩⟩
end Go.Proofs.YtminjjdnmpaaoaaGreatDoor
