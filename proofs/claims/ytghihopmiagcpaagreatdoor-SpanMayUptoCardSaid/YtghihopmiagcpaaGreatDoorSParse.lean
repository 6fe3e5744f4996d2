/-
  span.Parse, walked.
-/
import Derived.Test.YtghihopmiagcpaaGreatDoorSParseP
set_option autoImplicit false
set_option relaxedAutoImplicit false
set_option linter.unusedVariables false
set_option linter.unusedSimpArgs false
namespace Go.Proofs.YtghihopmiagcpaaGreatDoor
open Go.Rows Go.RowKit Go.Shelf Go.Sort

attribute [local go_sem] Oper.semAt_some

theorem runs_in0 {l : List Rk} (h : In0 l) : Runs (Has l) := by
  obtain ⟨h1, h2⟩ := foldedF_has 106 h (fun x hx => by simp at hx : In0 [])
  refine ⟨_, h2, fun n => (h1 n).trans ?_⟩
  have hw : wantB 106 (hasB l n) (hasB [] n) = hasB l n := by rw [hasB_no (has_nil n)]; simp [wantB]
  rw [hw, hasB_iff]
  constructor
  · exact fun h => h.2.2
  · rintro ⟨x, hx, q1, q2⟩
    have := h x hx
    exact ⟨by omega, by omega, x, hx, q1, q2⟩
theorem canon_in0 {l : List Rk} (h : In0 l) : In0 (canon (Has l)) := fun x hx => by
  have hn := canon_nrm (runs_in0 h)
  obtain ⟨q1, q2⟩ := nrm_mem hn hx
  obtain ⟨y, hy, _, hy2⟩ := (canon_has (runs_in0 h) x.2).1 ⟨x, hx, q2, Int.le_refl _⟩
  have := h y hy
  omega
theorem run_loadVar_flat {P : Program} (w : World) (ad : Addr) (ty : TypeId) (v : Value) (d : TypeDesc) (hc : w.cell? ad = some v) (hu : P.underlying ty = some d) (hd : (match d with | .struct _ | .array _ _ => true | _ => false) = false) : (loadVar ty ad).run P w = .ok v w := by
  have hagg : (isAgg ty).run P w = .ok false w := by
    unfold isAgg
    rw [Sem.run_bind, run_underlying hu w]
    cases d <;> simp_all
  simp [loadVar, Sem.run_bind, hagg, go_sem, hc]
theorem results_cell2 {P : Program} {fn : Func} {p q : Tmp} {ty ty2 : TypeId} (h : fn.results = #[.cell p ty, .cell q ty2]) (tmps : Array Value) (w : World) (g g2 : Nat) (d d2 : TypeDesc) (v v2 : Value)
    (hp : tmps.getD p undef = .pointer (some ⟨g, 0, none⟩)) (hq : tmps.getD q undef = .pointer (some ⟨g2, 0, none⟩)) (hg : w.cell? ⟨g, 0, none⟩ = some v) (hg2 : w.cell? ⟨g2, 0, none⟩ = some v2)
    (hu : P.underlying ty = some d) (hd : (match d with | .struct _ | .array _ _ => true | _ => false) = false) (hu2 : P.underlying ty2 = some d2) (hd2 : (match d2 with | .struct _ | .array _ _ => true | _ => false) = false) :
    (results fn tmps).run P w = .ok (.tuple #[v, v2]) w := by
  have hp' : tmps[p]?.getD undef = .pointer (some ⟨g, 0, none⟩) := by simpa using hp
  have hq' : tmps[q]?.getD undef = .pointer (some ⟨g2, 0, none⟩) := by simpa using hq
  simp [results, h, hp', hq', asAddr, run_loadVar_flat w ⟨g, 0, none⟩ ty v d hg hu hd, run_loadVar_flat w ⟨g2, 0, none⟩ ty2 v2 d2 hg2 hu2 hd2]

theorem Turn.setAt {X : Nat → Prop} (W : World) {b : Nat} (hb : X b) (o : Nat) (v : Value) : Turn X W (W.setCell ⟨b, o, none⟩ v) := by
  refine ⟨rfl, rfl, rfl, by simp [World.setCell], fun i hi hx => ?_⟩
  have hne : b ≠ i := fun e => hx (e ▸ hb)
  show (W.heap.modify b _)[i]? = _
  rw [Array.getElem?_modify, if_neg hne]
theorem two_set {W : World} {a b : Nat} {ta tb : TypeId} {va vb : Value} (h1 : Boxed W a ta va) (h2 : Boxed W b tb vb) (hne : a ≠ b) (x y : Value) :
    Boxed ((W.setCell ⟨a, 0, none⟩ x).setCell ⟨b, 0, none⟩ y) a ta x ∧ Boxed ((W.setCell ⟨a, 0, none⟩ x).setCell ⟨b, 0, none⟩ y) b tb y ∧ Turn (fun j => j = a ∨ j = b) W ((W.setCell ⟨a, 0, none⟩ x).setCell ⟨b, 0, none⟩ y) :=
  ⟨(h1.set x).other hne y, (h2.other (Ne.symm hne) x).set y, (Turn.set (X := fun j => j = a ∨ j = b) _ (.inl rfl) _).trans (Turn.set (X := fun j => j = a ∨ j = b) _ (.inr rfl) _)⟩

set_option maxHeartbeats 4000000 in
set_option maxRecDepth 100000 in
theorem spanParse_any (t : ByteArray) (w : World) (hv : Vok w) (hs : t.size ≤ 4611686018427387904) :
    Calls Tryz.prog 17 #[.string t] w fun e w' => ∃ v, e = .returned (.tuple #[v, .int .i64 (parseQ t).2]) ∧ SlV rSpn w' (fun b => w.heap.size ≤ b) (parseQ t).1 v ∧ Below w.heap.size w w' := by
  by_cases hbig : 4096 < t.size
  · have Hq : Hid (parseQ t = ([], 21)) := by unfold Hid parseQ parseS; rw [if_pos hbig]
    have hbigI : (4096 : Int) < (t.size : Int) := by omega
    go_enter Tryz.func17, Tryz.ntmps17
    go_wp2_with fail
    refine bodyPost_ret (results_cell2 rfl _ _ w.heap.size (w.heap.size + 1) _ _ (.slice none 0 0) (.int .i64 21) rfl rfl ?_ ?_ Tryz.underlying22 rfl Tryz.underlying28 rfl) rfl ?_
    · simp [go_sem]
    · simp [go_sem]
    · rw [Hq.out]
      exact ⟨_, rfl, SlV.nil_ _ _ _, bal (bal (Below.refl _ _) _) _⟩
  · have Hq : Hid (parseS t = altsF (spl t barsB)) := by unfold Hid parseS; rw [if_neg hbig]
    have hbigI : ¬ (4096 : Int) < (t.size : Int) := by omega
    obtain ⟨m, hm⟩ := hv.maxLen
    have Hv := Lib.hid hv
    have hmb := cell_lt hm
    have Hsp := Lib.hid (fun W => splitSeq_any t barsB W)
    unfold barsB at Hsp
    refine (callsIn_wide (n := 9)).1 ?_
    refine callsIn_of_wp_marks Tryz.func17 rfl trivial ?_ rfl
    simp only [Tryz.ntmps17, List.size_toArray, List.length_cons, List.length_nil, Nat.reduceAdd, Nat.reduceSub, Array.replicate_succ, Array.replicate_zero, List.push_toArray, List.append_toArray, List.nil_append, List.cons_append]
    gi_wp2
    obtain ⟨W1, hW1⟩ : ∃ W1, W1 = ((w.alloc (.cells #[.slice none 0 0] 22)).alloc (.cells #[.int .i64 0] 28)).alloc (.cells #[.slice none 0 0] 54) := ⟨_, rfl⟩
    have hB1 : Below w.heap.size w W1 := by rw [hW1]; exact bal (bal (bal (Below.refl _ _) _) _) _
    have hz1 : W1.heap.size = w.heap.size + 3 := by rw [hW1]; simp
    have b2 : Boxed W1 w.heap.size 22 (.slice none 0 0) := by rw [hW1]; exact ((Boxed.new w _ _).alloc _).alloc _
    have b3 : Boxed W1 (w.heap.size + 1) 28 (.int .i64 0) := by rw [hW1]; exact (show Boxed _ (w.heap.size + 1) _ _ from (by simpa using Boxed.new (w.alloc (.cells #[.slice none 0 0] 22)) 28 (.int .i64 0))).alloc _
    have b4 : Boxed W1 (w.heap.size + 2) 54 (.slice none 0 0) := by rw [hW1]; exact (by simpa using Boxed.new ((w.alloc (.cells #[.slice none 0 0] 22)).alloc (.cells #[.int .i64 0] 28)) 54 (.slice none 0 0))
    rw [← hW1]
    clear hW1
    refine ⟨trivial, (callsIn_wide.2 (Hsp.out _)).mono ?_⟩
    rintro e W0 ⟨rfl, hW0⟩
    obtain ⟨B, hB⟩ : ∃ B, B = W1.heap.size := ⟨_, rfl⟩
    rw [← hB]
    have hB0 : Below w.heap.size w W0 := by rw [hW0]; exact bal (bal (bal hB1 _) _) _
    have hz0 : W0.heap.size = w.heap.size + 6 := by rw [hW0]; simp [hz1]
    have c2 : Boxed W0 w.heap.size 22 (.slice none 0 0) := by rw [hW0]; exact ((b2.alloc _).alloc _).alloc _
    have c3 : Boxed W0 (w.heap.size + 1) 28 (.int .i64 0) := by rw [hW0]; exact ((b3.alloc _).alloc _).alloc _
    have c4 : Boxed W0 (w.heap.size + 2) 54 (.slice none 0 0) := by rw [hW0]; exact ((b4.alloc _).alloc _).alloc _
    have d1 : Boxed W0 B 9 (.string t) := by rw [hW0, hB]; exact ((Boxed.new _ _ _).alloc _).alloc _
    have d2 : Boxed W0 (B + 1) 9 (.string barsB) := by rw [hW0, hB]; exact (show Boxed _ (W1.heap.size + 1) _ _ from (by simpa [barsB] using Boxed.new (W1.alloc (.cells #[.string t] 9)) 9 (.string ⟨#[124, 124]⟩))).alloc _
    have d3 : Boxed W0 (B + 2) 3 (.int .i64 0) := by rw [hW0, hB]; exact (by simpa using Boxed.new ((W1.alloc (.cells #[.string t] 9)).alloc (.cells #[.string ⟨#[124, 124]⟩] 9)) 3 (.int .i64 0))
    have hm0 : W0.cell? ⟨2, 0, none⟩ = some (.int .i64 m) := below_cell hB0 hm hmb
    have hBz : B = w.heap.size + 3 := by rw [hB, hz1]
    have hg0 : 2 < w.heap.size := hmb
    have hseq := splitSeq1_parts 8 (by omega) B (B + 1) (B + 2) t barsB m W0 (by decide) (by decide) (by omega) hm0 d1 d2 d3 ⟨by omega, by omega, by omega⟩
    clear hW0 b2 b3 b4 hB d1 d2 d3 Hsp
    obtain ⟨L, hL⟩ : ∃ L, L = spl t barsB := ⟨_, rfl⟩
    rw [← hL] at hseq Hq
    have hLl : L.length ≤ 4097 := by rw [hL]; have := splitB_len barsB t.size t; unfold spl; omega
    have hLs : ∀ x ∈ L, x.size ≤ 4096 := fun x hx => by rw [hL] at hx; have := splitB_le barsB _ _ _ hx; omega
    clear hL
    subst hBz
    gi_wp2
    refine range_outer (X := fun j => j = w.heap.size ∨ j = w.heap.size + 1 ∨ j = w.heap.size + 2) rfl (by omega) (gf := 81) (lb := #[.pointer (some ⟨w.heap.size + 3 + 1, 0, none⟩), .pointer (some ⟨w.heap.size + 3, 0, none⟩), .pointer (some ⟨w.heap.size + 3 + 2, 0, none⟩)]) rfl trivial (enters_of Tryz.func81 (by kernel_rfl) rfl)
      hseq (fun j h => .inl h) rfl (fun j hj => ⟨rfl, by omega⟩) (fun k hk => by omega) (fun j hj => by omega)
      (fun k W => ∃ v all, (L.take k).foldl stepA (some []) = some all ∧ Boxed W w.heap.size 22 (.slice none 0 0) ∧ Boxed W (w.heap.size + 1) 28 (.int .i64 0) ∧ Boxed W (w.heap.size + 2) 54 v ∧ Own rRnk W (w.heap.size + 6) 59 v all (fun _ => False) ∧ Below w.heap.size w W)
      (fun W => L.foldl stepA (some []) = none ∧ Boxed W w.heap.size 22 (.slice none 0 0) ∧ Boxed W (w.heap.size + 1) 28 (.int .i64 21) ∧ Below w.heap.size w W)
      ?hI ?hIx ⟨_, _, rfl, c2, c3, c4, Own.nil_ _ _ _ _ (fun b hb => hb.elim), hB0⟩ ?round ?done ?stop
    case hI =>
      rintro k P Q ⟨v, all, h0, h1, h2, h3, h4, h5⟩ t
      have hnb : ∀ {b : Nat} {ty : TypeId} {x : Value}, Boxed P b ty x → b < w.heap.size + 3 → ¬ NC (fun j => j = w.heap.size + 3) W0.heap.size P b := by
        intro b ty x hb hlt
        rintro (e | ⟨e, _⟩)
        · omega
        · omega
      refine ⟨v, all, h0, t.box h1 (hnb h1 (by omega)), t.box h2 (hnb h2 (by omega)), t.box h3 (hnb h3 (by omega)), h4.turn t (fun g hg => ?_) (fun b hb => hb.elim), h5.trans (t.below h5.size ?_)⟩
      · obtain ⟨q1, q2⟩ := h4.cells hg
        rintro (e | e)
        · omega
        · exact q2 e.2
      · rintro k (e | e)
        · omega
        · omega
    case hIx =>
      rintro P Q ⟨h0, h1, h2, h5⟩ t
      have hnb : ∀ {b : Nat} {ty : TypeId} {x : Value}, Boxed P b ty x → b < w.heap.size + 3 → ¬ NC (fun j => j = w.heap.size + 3) W0.heap.size P b := by
        intro b ty x hb hlt
        rintro (e | ⟨e, _⟩)
        · omega
        · omega
      refine ⟨h0, t.box h1 (hnb h1 (by omega)), t.box h2 (hnb h2 (by omega)), h5.trans (t.below h5.size ?_)⟩
      rintro k (e | e)
      · omega
      · omega
    case stop =>
      rintro D W hD ⟨h0, h1, h2, h5⟩ hK
      gi_wp2
      refine ⟨by simp, .inl ⟨_, _, rfl, run_takeDeferred hK, ?_⟩⟩
      have tD : Turn (fun j => j = D) W (W.putObj D (.deferred none)) := Turn.put W (X := fun j => j = D) (show D = D from rfl) _
      have g1 := tD.box h1 (by show ¬ w.heap.size = D; omega)
      have g2 := tD.box h2 (by show ¬ w.heap.size + 1 = D; omega)
      have hq : parseQ t = ([], 21) := by unfold parseQ; rw [show parseS t = none from Hq.out.trans h0]
      rw [hq]
      exact ⟨_, results_cell2 rfl _ _ w.heap.size (w.heap.size + 1) _ _ _ _ rfl rfl g1.cell g2.cell Tryz.underlying22 rfl Tryz.underlying28 rfl, _, rfl, SlV.nil_ _ _ _, h5.trans (tD.below h5.size fun j hj => by omega)⟩
    case done =>
      rintro D W hD ⟨v, all, h0, h1, h2, h3, h4, h5⟩ hK
      rw [List.take_length] at h0
      have cv := h3.cell
      have hz := h5.size
      obtain ⟨hin, hal⟩ := altsF_in0 L h0
      obtain ⟨A, c, rfl, _, _⟩ := h4.slv.val
      have hDW := (Array.getElem?_eq_some_iff.1 hK).1
      have hsl : SlV rRnk W (fun b => b < W.heap.size) all (.slice A all.length c) := h4.slv.more fun b _ h => h
      have Hj := Lib.hid (joined_any A all.length c all W hsl hin (by omega))
      have hci := canon_in0 hin
      have hq : parseQ t = fitR (canon (Has all)) := by unfold parseQ; rw [show parseS t = some all from Hq.out.trans h0]
      have Hq2 := Lib.hid hq
      have Hci := Lib.hid hci
      clear hsl hin hal hci hq h0 Hq
      generalize all.length = al at *
      gi_wp2
      refine ⟨trivial, (callsIn_wide.2 Hj.out).mono ?_⟩
      rintro e W2 ⟨v2, rfl, hv2, hb2⟩
      obtain ⟨A2, c2, hv2e, _, _⟩ := hv2.val
      have Hf := Lib.hid (fit_any A2 _ c2 (canon (Has all)) W2 _ (fun x hx => by have := Hci.out x hx; unfold lastR at this; omega) (hv2e ▸ hv2))
      rw [← hv2e] at Hf
      rw [← Hq2.out] at Hf
      obtain ⟨q2, hq2⟩ : ∃ q2, q2 = (parseQ t).2 := ⟨_, rfl⟩
      obtain ⟨ql, hql⟩ : ∃ ql, ql = (parseQ t).1 := ⟨_, rfl⟩
      rw [← hq2, ← hql] at Hf
      have Hq2' := Lib.hid hq2
      have Hql := Lib.hid hql
      clear hv2 hv2e Hq2 Hci Hj hq2 hql
      gi_wp2
      refine ⟨trivial, (callsIn_wide.2 Hf.out).mono ?_⟩
      rintro e W3 ⟨v3, rfl, hv3, hb3⟩
      have hb23 : Below W.heap.size W W3 := hb2.trans (hb3.mono hb2.size)
      obtain ⟨A3, c3', rfl, _, _⟩ := hv3.val
      have tW : Turn (fun _ => False) W W3 := Turn.of_below hb23
      have g1 := tW.box h1 (fun e => e)
      have g2 := tW.box h2 (fun e => e)
      have gK := tW.at hK (fun e => e)
      have cg1 := g1.cell
      have cg2 := g2.cell
      have fg1 := g1.frozen
      have fg2 := g2.frozen
      have hz2 := hb2.size
      have hz3 := hb23.size
      have hb03 : Below w.heap.size w W3 := h5.trans (hb23.mono hz)
      generalize hqn : ql.length = qn at *
      have Hqn := Lib.hid hqn
      clear hqn
      gi_wp2
      obtain ⟨s1, s2, tS⟩ := two_set g1 g2 (by omega) (.slice A3 qn c3') (.int .i64 q2)
      generalize (W3.setCell ⟨w.heap.size, 0, none⟩ (.slice A3 qn c3')).setCell ⟨w.heap.size + 1, 0, none⟩ (.int .i64 q2) = W4 at *
      have gK' := tS.at gK (by show ¬ (D = w.heap.size ∨ D = w.heap.size + 1); omega)
      refine ⟨by simp, .inl ⟨_, _, rfl, run_takeDeferred gK', ?_⟩⟩
      have tD : Turn (fun j => j = D) W4 (W4.putObj D (.deferred none)) := Turn.put W4 (X := fun j => j = D) (show D = D from rfl) _
      have s1' := tD.box s1 (by show ¬ w.heap.size = D; omega)
      have s2' := tD.box s2 (by show ¬ w.heap.size + 1 = D; omega)
      have tE : Turn (fun j => j = w.heap.size ∨ j = w.heap.size + 1 ∨ j = D) W3 (W4.putObj D (.deferred none)) := (tS.mono fun j _ e => by omega).trans (tD.mono fun j _ e => by omega)
      rw [← Hq2'.out, ← Hql.out]
      refine ⟨_, results_cell2 rfl _ _ w.heap.size (w.heap.size + 1) _ _ _ _ rfl rfl s1'.cell s2'.cell Tryz.underlying22 rfl Tryz.underlying28 rfl, _, rfl, ?_, hb03.trans (tE.below (by omega) fun j hj => by omega)⟩
      exact (hv3.keep fun b hb hlt => tE.block b hlt (by have : W2.heap.size ≤ b := hb; omega)).more fun b hb _ => by have : W2.heap.size ≤ b := hb; omega
    case round =>
      rintro lp r k hk W hlo hlp ⟨v, all, h0, h1, h2, h3, h4, h5⟩
      have hlW := (Array.getElem?_eq_some_iff.1 hlp).1
      unfold encS
      have hx := hLs _ (List.getElem_mem hk)
      have hsnoc := fold_snoc (f := stepA) (s := some []) hk
      generalize L[k] = x at *
      gi_wp2
      refine ⟨Turn.refl _ _, fun V tV hrV => ?_⟩
      have b1 := tV.box h1 (by show ¬ w.heap.size = lp; omega)
      have b2 := tV.box h2 (by show ¬ w.heap.size + 1 = lp; omega)
      have b3 := tV.box h3 (by show ¬ w.heap.size + 2 = lp; omega)
      have hbV : Below w.heap.size w V := h5.trans (tV.below h5.size fun j hj => by omega)
      have hVz := hbV.size
      have hlV : lp < V.heap.size := Nat.lt_of_lt_of_le hlW tV.size
      obtain ⟨rV, hrV⟩ := hrV
      have Hsp := Lib.hid (fun W => splitSeq_any x blankB W)
      unfold blankB at Hsp
      gi_wp2
      obtain ⟨V1, hV1⟩ : ∃ V1, V1 = (V.alloc (.cells #[.int .i64 0, .int .i64 999999999] 59)).alloc (.cells #[.bool false] 4) := ⟨_, rfl⟩
      have hz1' : V1.heap.size = V.heap.size + 2 := by rw [hV1]; simp
      have tV1 : Turn (fun _ => False) V V1 := by rw [hV1]; exact (Turn.alloc _ _).trans (Turn.alloc _ _)
      have r6 : V1.heap[V.heap.size]? = some (.cells #[.int .i64 0, .int .i64 999999999] 59 (0, 0)) := by rw [hV1]; exact (Turn.alloc (X := fun _ => False) _ _).at (World.alloc_heap_new _ _) (fun e => e)
      have r7 : Boxed V1 (V.heap.size + 1) 4 (.bool false) := by rw [hV1]; exact (by simpa using Boxed.new (V.alloc (.cells #[.int .i64 0, .int .i64 999999999] 59)) 4 (.bool false))
      rw [← hV1]
      clear hV1
      refine ⟨trivial, (CallsIn.inRound lp (callsIn_wide.2 (Hsp.out _))).mono ?_⟩
      rintro e V0 ⟨rfl, hV0⟩
      have tV0 : Turn (fun _ => False) V1 V0 := by rw [hV0]; exact ((Turn.alloc _ _).trans (Turn.alloc _ _)).trans (Turn.alloc _ _)
      have hzV0 : V0.heap.size = V.heap.size + 5 := by rw [hV0]; simp [hz1']
      have e1 : Boxed V0 (V.heap.size + 2) 9 (.string x) := by rw [hV0, ← hz1']; exact ((Boxed.new _ _ _).alloc _).alloc _
      have e2 : Boxed V0 (V.heap.size + 2 + 1) 9 (.string blankB) := by rw [hV0, ← hz1']; exact (show Boxed _ (V1.heap.size + 1) _ _ from (by simpa [blankB] using Boxed.new (V1.alloc (.cells #[.string x] 9)) 9 (.string ⟨#[32]⟩))).alloc _
      have e3 : Boxed V0 (V.heap.size + 2 + 2) 3 (.int .i64 0) := by rw [hV0, ← hz1']; exact (by simpa using Boxed.new ((V1.alloc (.cells #[.string x] 9)).alloc (.cells #[.string ⟨#[32]⟩] 9)) 3 (.int .i64 0))
      rw [hz1']
      have tVV : Turn (fun _ => False) V V0 := tV1.trans tV0
      have hbV0 : Below w.heap.size w V0 := hbV.trans (tVV.below hVz fun j hj => hj.elim)
      have hmV : V0.cell? ⟨2, 0, none⟩ = some (.int .i64 m) := below_cell hbV0 hm hmb
      have hseq2 := splitSeq1_parts 6 (by omega) (V.heap.size + 2) (V.heap.size + 2 + 1) (V.heap.size + 2 + 2) x blankB m V0 (by decide) (by decide) (by omega) hmV e1 e2 e3 ⟨by omega, by omega, by omega⟩
      have r6' := tV0.at r6 (fun e => e)
      have r7' := tV0.box r7 (fun e => e)
      have hl0 := tVV.at hrV (fun e => e)
      have b1' := tVV.box b1 (fun e => e)
      have b2' := tVV.box b2 (fun e => e)
      obtain ⟨M, hM⟩ : ∃ M, M = spl x blankB := ⟨_, rfl⟩
      rw [← hM] at hseq2
      have HM := Lib.hid hM
      have hMs : ∀ y ∈ M, y.size ≤ 4096 := fun y hy => by rw [hM] at hy; have := splitB_le blankB _ _ _ hy; omega
      clear hV0 r6 r7 e1 e2 e3 Hsp tV0 tV1 hM
      gi_wp2
      refine range_inner (X := fun j => j = V.heap.size ∨ j = V.heap.size + 1 ∨ j = w.heap.size ∨ j = w.heap.size + 1) (F := Fence.wide.inRound lp) rfl hl0 (by omega) (gf := 81) (lb := #[.pointer (some ⟨V.heap.size + 2 + 1, 0, none⟩), .pointer (some ⟨V.heap.size + 2, 0, none⟩), .pointer (some ⟨V.heap.size + 2 + 2, 0, none⟩)]) rfl trivial (enters_of Tryz.func81 (by kernel_rfl) rfl)
        hseq2 (fun j h => .inl h) rfl (fun j hj => ⟨rfl, by omega⟩) (fun k hk => by omega) (fun j hj => by omega)
        (fun j U => Hid (∃ o b, (M.take j).foldl stepW (some ((0, lastR), false)) = some (o, b) ∧ U.heap[V.heap.size]? = some (.cells #[.int .i64 o.1, .int .i64 o.2] 59 (0, 0)) ∧ Boxed U (V.heap.size + 1) 4 (.bool b) ∧ Turn (fun _ => False) V U))
        (fun U => M.foldl stepW (some ((0, lastR), false)) = none ∧ Boxed U w.heap.size 22 (.slice none 0 0) ∧ Boxed U (w.heap.size + 1) 28 (.int .i64 21) ∧ Turn (fun j => j = w.heap.size ∨ j = w.heap.size + 1) V U)
        ?hI ?hIx ⟨_, _, rfl, r6', r7', tVV⟩ ?round ?done ?stop
      case hI =>
        rintro j P Q ⟨o, b, g0, g1, g2, g3⟩ t
        refine ⟨o, b, g0, t.at g1 ?_, t.box g2 ?_, g3.trans2 t fun j hj e => ?_⟩
        · rintro (e | ⟨e, _⟩) <;> omega
        · rintro (e | ⟨e, _⟩) <;> omega
        · rcases e with e | ⟨e, _⟩ <;> omega
      case hIx =>
        rintro P Q ⟨g0, g1, g2, g3⟩ t
        refine ⟨g0, t.box g1 ?_, t.box g2 ?_, g3.trans2 t fun j hj e => ?_⟩
        · rintro (e | ⟨e, _⟩) <;> omega
        · rintro (e | ⟨e, _⟩) <;> omega
        · rcases e with e | ⟨e, _⟩ <;> omega
      case stop =>
        rintro U ⟨g0, g1, g2, g3⟩
        gi_wp2
        refine ⟨g3.mono fun j _ e => .inl (by omega), ?_, g1, g2, hbV.trans (g3.below hVz fun j hj => by omega)⟩
        refine fold_dead stepA_none (k := k + 1) ?_
        rw [hsnoc, h0]
        have hi : innF (spl x blankB) = none := by unfold innF; rw [← HM.out]; exact g0
        unfold stepA
        simp only [hi]
      case done =>
        rintro U ⟨o, b, g0, g1, g2, g3⟩
        rw [List.take_length] at g0
        have hi : innF (spl x blankB) = some (o, b) := by unfold innF; rw [← HM.out]; exact g0
        obtain ⟨⟨p0, p1⟩, f0, f1⟩ := row2 g1
        have p2 := g2.cell
        have k1 := g3.box b1 (fun e => e)
        have k2 := g3.box b2 (fun e => e)
        have k3 := g3.box b3 (fun e => e)
        have k1c := k1.cell
        have k2c := k2.cell
        have k3c := k3.cell
        have k1f := k1.frozen
        have k2f := k2.frozen
        have k3f := k3.frozen
        have hbU : Below w.heap.size w U := hbV.trans (g3.below hVz fun j hj => hj.elim)
        have hi2 := innF_bounds _ hi
        have hq : (L.take (k + 1)).foldl stepA (some []) = if b = false then none else if o.1 ≤ o.2 then some (all ++ [o]) else some all := by
          rw [hsnoc, h0]; unfold stepA; simp only [hi]
        have Hq3 := Lib.hid hq
        clear hq hi g0 hsnoc
        cases b with
        | false =>
          gi_wp2
          obtain ⟨s1, s2, tS⟩ := two_set k1 k2 (by omega) (.slice none 0 0) (.int .i64 21)
          refine ⟨(g3.mono fun j _ e => e.elim).trans (tS.mono fun j _ e => .inl (by omega)), fold_dead stepA_none (k := k + 1) Hq3.out, s1, s2, hbU.trans (tS.below hbU.size fun j hj => by omega)⟩
        | true =>
          rw [if_neg (by simp)] at Hq3
          have h4U : Own rRnk U (w.heap.size + 6) 59 v all (fun _ => False) := (h4.turn tV (fun g hg e => (h4.cells hg).2 (by rw [e]; exact ⟨_, hlp, rfl⟩)) (fun b hb => hb.elim)).turn g3 (fun _ _ e => e) (fun b hb => hb.elim)
          by_cases hle : o.1 ≤ o.2
          · rw [if_pos hle] at Hq3
            have hal : all.length ≤ k := by
              have := (altsF_in0 (L.take k) h0).2
              rw [List.length_take] at this; omega
            have hkL : k < 4097 := by omega
            obtain ⟨o1, o2⟩ := o
            simp only at p0 p1 hle hi2 Hq3
            unfold lastR at hi2
            have hUz : w.heap.size + 6 ≤ U.heap.size := by have := (Array.getElem?_eq_some_iff.1 g1).1; omega
            gi_wp2_with (gi_at_builtin; go_loud (refine wpListIn_push0 (by rfl) _ _ _ (by rfl) elt_rnk Tryz.underlying54 (by rfl) (h4U.alloc _) ⟨U.heap.size, 0, none⟩ 1 [.int .i64 o1, .int .i64 o2] (o1, o2) (by rfl) ⟨rfl, by unfold I64; omega, by unfold I64; omega⟩ (news_of U #[.int .i64 o1, .int .i64 o2] _) (by unfold maxLen; omega) (by omega) (by simp; omega) ?_))
            intro g cap V2 own2 hgrow hlt2
            have hne2 : some (w.heap.size + 2) ≠ v.ownBlock := fun e => by have := (h4U.lt _ e.symm).1; omega
            have hnea : some w.heap.size ≠ v.ownBlock := fun e => by have := (h4U.lt _ e.symm).1; omega
            have hneb : some (w.heap.size + 1) ≠ v.ownBlock := fun e => by have := (h4U.lt _ e.symm).1; omega
            have m1 : Boxed V2 w.heap.size 22 (.slice none 0 0) := (k1.alloc _).kept hgrow hnea
            have m2 : Boxed V2 (w.heap.size + 1) 28 (.int .i64 0) := (k2.alloc _).kept hgrow hneb
            have m3 : Boxed V2 (w.heap.size + 2) 54 v := (k3.alloc _).kept hgrow hne2
            have cv2 := m3.cell
            have fv2 := m3.frozen
            gi_wp2
            have hg1 := own2.lt g rfl
            have tG : Turn (Free (fun _ => False) (w.heap.size + 6) U) U V2 := (Turn.alloc U _).trans2 (Turn.grown (X := fun j => v.ownBlock = some j) hgrow (fun j e => e)) fun j hj e => by
              obtain ⟨q1, q2⟩ := h4U.cells e
              refine .inr ⟨by omega, ?_⟩
              obtain ⟨ob, ho⟩ : ∃ ob, U.heap[j]? = some ob := ⟨_, Array.getElem?_eq_getElem hj⟩
              refine ⟨ob, ho, ?_⟩
              cases hc : ob.isCells with
              | true => rfl
              | false => exact absurd ⟨ob, ho, hc⟩ q2
            have tS : Turn (fun j => j = w.heap.size + 2) V2 (V2.setCell ⟨w.heap.size + 2, 0, none⟩ (.slice (some ⟨g, 0, none⟩) (all.length + 1) cap)) := Turn.set (X := fun j => j = w.heap.size + 2) _ rfl _
            have tZ : Turn (Free (fun j => j = w.heap.size ∨ j = w.heap.size + 1 ∨ j = w.heap.size + 2) W0.heap.size V) V (V2.setCell ⟨w.heap.size + 2, 0, none⟩ (.slice (some ⟨g, 0, none⟩) (all.length + 1) cap)) := by
              refine Turn.trans2 (Turn.trans2 (g3.mono fun j _ e => e.elim) tG fun j hj e => ?_) tS fun j _ e => .inl (by omega)
              rcases e with e | ⟨e, ob, ho, hc⟩
              · exact e.elim
              · exact .inr ⟨by omega, ob, by rw [← g3.block j hj (fun e => e)]; exact ho, hc⟩
            refine ⟨tZ, _, _, Hq3.out, m1.other (by omega) _, m2.other (by omega) _, m3.set _, own2.turn tS (fun g' hg' e => by simp [Value.ownBlock] at hg'; omega) (fun b hb => hb.elim), ?_⟩
            refine hbV.trans (tZ.below hVz fun j e => ?_)
            rcases e with e | ⟨e, _⟩
            · omega
            · omega
          · rw [if_neg hle] at Hq3
            gi_wp2
            exact ⟨g3.mono fun j _ e => e.elim, v, all, Hq3.out, k1, k2, k3, h4U, hbU⟩
      case round =>
        rintro l2 r2 j hj U hlo2 hlp2 ⟨o, b, g0, g1, g2, g3⟩
        unfold encS
        have hy := hMs _ (List.getElem_mem hj)
        have hsn2 := fold_snoc (f := stepW) (s := some ((0, lastR), false)) hj
        generalize M[j] = y at *
        gi_wp2
        refine ⟨Turn.refl _ _, fun U1 tU hrU => ?_⟩
        have hl2U := (Array.getElem?_eq_some_iff.1 hlp2).1
        rw [g0] at hsn2
        have q1 := tU.at g1 (by show ¬ V.heap.size = l2; omega)
        have q2 := tU.box g2 (by show ¬ V.heap.size + 1 = l2; omega)
        have q3 : Turn (fun _ => False) V U1 := g3.trans2 tU fun j' hj' e => by omega
        by_cases hye : y = ⟨#[]⟩
        · have hb : (y.toList == []) = true := by rw [hye, Go.ByteArray.toList_eq]; rfl
          have Hst : Hid ((M.take (j + 1)).foldl stepW (some ((0, lastR), false)) = some (o, b)) := by unfold Hid; rw [hsn2]; unfold stepW; simp only [if_pos hye]
          clear hsn2 hye
          gi_wp2
          exact ⟨Turn.refl _ _, o, b, Hst.out, q1, q2, q3⟩
        · have hb : (y.toList == []) = false := by rw [beq_eq_false_iff_ne]; intro e; exact hye (bytes_ext (by rw [Go.ByteArray.toList_eq] at e; exact e))
          have hbU1 : Below w.heap.size w U1 := hbV.trans (q3.below hVz fun j hj => hj.elim)
          have Hwd := Lib.hid (word_any y U1 (Hv.out.below hbU1) (by omega))
          have HstN : Hid (wordF y = none → (M.take (j + 1)).foldl stepW (some ((0, lastR), false)) = none) := fun h => by rw [hsn2]; unfold stepW; simp only [if_neg hye, h]
          have HstS : Hid (∀ z, wordF y = some z → (M.take (j + 1)).foldl stepW (some ((0, lastR), false)) = some ((max o.1 z.1, min o.2 z.2), true)) := fun z h => by rw [hsn2]; unfold stepW; simp only [if_neg hye, h]
          have Hwb : Hid (∀ x, wordF y = some x → (0 ≤ x.1 ∧ x.1 ≤ 1000000000) ∧ -1 ≤ x.2 ∧ x.2 ≤ lastR) := fun x h => wordF_bounds h
          clear hsn2 hye
          cases hw : wordF y with
          | none =>
            rw [hw] at Hwd
            have Hst := Lib.hid (HstN.out hw)
            clear HstN HstS Hwb
            gi_wp2
            refine ⟨trivial, (CallsIn.inRound l2 (callsIn_wide.2 Hwd.out)).mono ?_⟩
            rintro e U2 ⟨rfl, hbu2⟩
            have tU2 : Turn (fun _ => False) U1 U2 := Turn.of_below hbu2
            have k1 := (q3.trans tU2).box b1 (fun e => e)
            have k2 := (q3.trans tU2).box b2 (fun e => e)
            have hzu := hbU1.size
            have hzu2 := tU2.size
            have hzu3 : w.heap.size + 1 < U2.heap.size := k2.lt
            simp only [Option.getD_none, Option.isSome_none, rkV]
            have k1c := k1.cell
            have k2c := k2.cell
            have k1f := k1.frozen
            have k2f := k2.frozen
            have k1c' := (k1.alloc (.cells #[.int .i64 0, .int .i64 0] 59)).cell
            have k2c' := (k2.alloc (.cells #[.int .i64 0, .int .i64 0] 59)).cell
            have k1f' := (k1.alloc (.cells #[.int .i64 0, .int .i64 0] 59)).frozen
            have k2f' := (k2.alloc (.cells #[.int .i64 0, .int .i64 0] 59)).frozen
            have hzu4 : w.heap.size < U2.heap.size := k1.lt
            have kk1 := k1.alloc (.cells #[.int .i64 0, .int .i64 0] 59)
            have kk2 := k2.alloc (.cells #[.int .i64 0, .int .i64 0] 59)
            have tU3 : Turn (fun _ => False) U1 (U2.alloc (.cells #[.int .i64 0, .int .i64 0] 59)) := tU2.trans (Turn.alloc _ _)
            gi_wp2
            obtain ⟨s1, s2, tS⟩ := two_set k1 k2 (by omega) (.slice none 0 0) (.int .i64 21)
            refine ⟨((tU2.mono fun j _ e => e.elim).trans (tS.mono fun j _ e => .inl (by omega))).trans (Turn.alloc _ _), fold_dead stepW_none (k := j + 1) Hst.out, s1.alloc _, s2.alloc _, (((q3.trans tU2).mono fun j _ e => e.elim).trans tS).trans (Turn.alloc _ _)⟩
          | some z =>
            rw [hw] at Hwd
            have Hst := Lib.hid (HstS.out z hw)
            have hzb := Hwb.out z hw
            clear HstN HstS Hwb
            gi_wp2
            refine ⟨trivial, (CallsIn.inRound l2 (callsIn_wide.2 Hwd.out)).mono ?_⟩
            rintro e U2 ⟨rfl, hbu2⟩
            have tU2 : Turn (fun _ => False) U1 U2 := Turn.of_below hbu2
            have k1 := tU2.at q1 (fun e => e)
            have k2 := tU2.box q2 (fun e => e)
            simp only [Option.getD_some, Option.isSome_some, rkV]
            obtain ⟨o1, o2⟩ := o
            obtain ⟨z1, z2⟩ := z
            simp only at k1 hzb Hst
            have hzu3 : V.heap.size + 1 < U2.heap.size := k2.lt
            have hzu4 : V.heap.size < U2.heap.size := by omega
            have tA : Turn (fun _ => False) U2 (U2.alloc (.cells #[.int .i64 z1, .int .i64 z2] 59)) := Turn.alloc _ _
            have kk1 := tA.at k1 (fun e => e)
            have kk2 := tA.box k2 (fun e => e)
            have kn : (U2.alloc (.cells #[.int .i64 z1, .int .i64 z2] 59)).heap[U2.heap.size]? = some (.cells #[.int .i64 z1, .int .i64 z2] 59 (0, 0)) := World.alloc_heap_new _ _
            obtain ⟨⟨p0, p1⟩, f0, f1⟩ := row2 k1
            obtain ⟨⟨p0', p1'⟩, f0', f1'⟩ := row2 kk1
            obtain ⟨⟨pn0, pn1⟩, _⟩ := row2 kn
            have p2 := k2.cell
            have p2f := k2.frozen
            have p2' := kk2.cell
            have p2f' := kk2.frozen
            have hmx := mx_max o1 z1
            have hmn := mn_min o2 z2
            gi_wp2
            have tS : Turn (fun j => j = V.heap.size ∨ j = V.heap.size + 1) U2 (((U2.setCell ⟨V.heap.size, 0, none⟩ (.int .i64 (max o1 z1))).setCell ⟨V.heap.size, 1, none⟩ (.int .i64 (min o2 z2))).setCell ⟨V.heap.size + 1, 0, none⟩ (.bool true)) := ((Turn.setAt _ (.inl rfl) 0 _).trans (Turn.setAt _ (.inl rfl) 1 _)).trans (Turn.setAt _ (.inr rfl) 0 _)
            have s1 := (Turn.set (X := fun j => j = V.heap.size + 1) ((U2.setCell ⟨V.heap.size, 0, none⟩ (.int .i64 (max o1 z1))).setCell ⟨V.heap.size, 1, none⟩ (.int .i64 (min o2 z2))) rfl (.bool true)).at (heap_set2 k1 (.int .i64 (max o1 z1)) (.int .i64 (min o2 z2))) (by show ¬ V.heap.size = V.heap.size + 1; omega)
            have s2 := ((((Turn.setAt (X := fun j => j = V.heap.size) U2 rfl 0 (.int .i64 (max o1 z1))).trans (Turn.setAt (X := fun j => j = V.heap.size) _ rfl 1 (.int .i64 (min o2 z2)))).box k2 (by show ¬ V.heap.size + 1 = V.heap.size; omega)).set (.bool true))
            refine ⟨((tU2.mono fun j _ e => e.elim).trans (tS.mono fun j _ e => .inl (by omega))).trans (Turn.alloc _ _), _, _, .inr ⟨Hst.out, (Turn.alloc (X := fun _ => False) _ _).at s1 (fun e => e), s2.alloc _, ((q3.trans tU2).trans2 tS fun j hj e => by omega).trans (Turn.alloc _ _)⟩⟩
end Go.Proofs.YtghihopmiagcpaaGreatDoor
