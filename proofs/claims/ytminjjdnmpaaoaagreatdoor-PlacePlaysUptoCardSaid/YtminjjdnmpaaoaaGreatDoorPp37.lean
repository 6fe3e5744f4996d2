/-
  All but one block: frames; a row of the call's own whose elements are written over. Over any program.
  The program's placer: can the graph be placed; the edges of a directory: walked.
  The program's placer: the edges of a directory: what stays, in memory and in plain words.
-/
import Derived.Test.YtminjjdnmpaaoaaGreatDoorPp04
import Derived.Laws.OwnMore
import Derived.Test.YtminjjdnmpaaoaaGreatDoorPp29
import Derived.Test.YtminjjdnmpaaoaaGreatDoorPp28
set_option autoImplicit false
set_option relaxedAutoImplicit false
namespace Go.Proofs.YtminjjdnmpaaoaaGreatDoor
open Go.RowKit Go.Sort
set_option linter.unusedVariables false
set_option linter.unusedSimpArgs false

/-- what was there is as it was, but for block B -/
structure But (B : Nat) (w w' : World) : Prop where
  os : w'.os = w.os
  tape : w'.tape = w.tape
  output : w'.output = w.output
  size : w.heap.size ≤ w'.heap.size
  block : ∀ k, k < w.heap.size → k ≠ B → w'.heap[k]? = w.heap[k]?
section
variable {B : Nat} {w w' w'' : World}
theorem But.refl (B : Nat) (w : World) : But B w w := ⟨rfl, rfl, rfl, Nat.le_refl _, fun _ _ _ => rfl⟩
theorem But.trans (h : But B w w') (k : But B w' w'') : But B w w'' :=
  ⟨k.os.trans h.os, k.tape.trans h.tape, k.output.trans h.output, Nat.le_trans h.size k.size, fun i hi hn => (k.block i (Nat.lt_of_lt_of_le hi h.size) hn).trans (h.block i hi hn)⟩
theorem But.of (h : Below w.heap.size w w') : But B w w' := ⟨h.os, h.tape, h.output, h.size, fun k hk _ => h.block k hk⟩
theorem But.below {N : Nat} (h : But B w w') (hB : N ≤ B) (hN : N ≤ w.heap.size) : Below N w w' :=
  ⟨h.os, h.tape, h.output, h.size, fun k hk => h.block k (Nat.lt_of_lt_of_le hk hN) (Nat.ne_of_lt (Nat.lt_of_lt_of_le hk hB))⟩
theorem But.then (h : But B w w') (k : Below w'.heap.size w' w'') : But B w w'' := h.trans (But.of k)
theorem But.set (w : World) (B o : Nat) (v : Value) : But B w (w.setCell ⟨B, o, none⟩ v) :=
  ⟨rfl, rfl, rfl, by simp, fun k _ hk => heap_setCell_other w ⟨B, o, none⟩ k v hk⟩
theorem But.cell (h : But B w w') {b o : Nat} {v : Value} (hc : w.cell? ⟨b, o, none⟩ = some v) (hb : b ≠ B) : w'.cell? ⟨b, o, none⟩ = some v := by
  rw [cell_same (h.block b (cell_lt hc) hb) o none]; exact hc
theorem But.slv {α : Type} {r : Rp α} {S : Nat → Prop} {l : List α} {v : Value} (h : But B w w') (hs : SlV r w S l v) (hS : ∀ b, S b → b ≠ B) : SlV r w' S l v := SlV.keep hs fun b hb hl => h.block b hl (hS b hb)
end

section
variable {α : Type} {r : Rp α} {w : World} {S : Nat → Prop}
theorem Elems.set {y : α} {j : Nat} {u : Value} (hj : j < r.size) : ∀ {l : List α} {xs : List Value} {i : Nat} (hi : i < l.length), Elems r w S l xs → (∀ cs, r.holds w S l[i] cs → r.holds w S y (cs.set j u)) → Elems r w S (l.set i y) (xs.set (i * r.size + j) u) := by
  intro l
  induction l with
  | nil => intro xs i hi; simp at hi
  | cons x l ih =>
    intro xs i hi h hy
    obtain ⟨cs, rest, h1, h2, h3⟩ := h
    have hl := r.len h2
    subst h1
    cases i with
    | zero =>
      rw [List.set_cons_zero, Nat.zero_mul, Nat.zero_add, List.set_append_left _ _ (by rw [hl]; exact hj)]
      exact ⟨cs.set j u, rest, rfl, hy cs h2, h3⟩
    | succ i =>
      rw [List.set_cons_succ, List.set_append_right _ _ (by rw [hl, Nat.succ_mul]; omega), hl, show (i + 1) * r.size + j - r.size = i * r.size + j from by rw [Nat.succ_mul]; omega]
      exact ⟨cs, _, rfl, h2, ih (by simpa using hi) h3 (by simpa using hy)⟩
end
theorem SlV.cutD {α : Type} {r : Rp α} {w : World} {S : Nat → Prop} {l : List α} {A : Option Addr} {n c : Nat} (h : SlV r w S l (.slice A n c)) (k : Nat) (hk : k ≤ n) :
    SlV r w S (l.drop k) (.slice (if c = k then A else A.map (·.add (k * r.size))) (n - k) (c - k)) := by
  obtain ⟨A', c', h1, h2, h3, h4, h5⟩ := h
  simp only [List.cons.injEq, Value.slice.injEq, and_true] at h1
  obtain ⟨rfl, rfl, rfl⟩ := h1
  refine ⟨_, _, by rw [List.length_drop], by rw [List.length_drop]; omega, by omega, fun he => ?_, fun hn => ?_⟩
  · split at he
    · have := h4 he; omega
    · rw [Option.map_eq_none_iff] at he
      have := h4 he; omega
  · rw [List.length_drop] at hn
    obtain ⟨b, o, rfl, hS, hb, hr⟩ := h5 (by omega)
    rw [if_neg (by omega)]
    refine ⟨b, o + k * r.size, by rw [Option.map_some, add_lit'], hS, hb, fun i x hx => ?_⟩
    rw [List.getElem?_drop] at hx
    obtain ⟨cs, g1, g2⟩ := hr _ x hx
    refine ⟨cs, g1, fun j u hu => ?_⟩
    have := g2 j u hu
    rw [Nat.add_mul] at this
    rw [show o + k * r.size + i * r.size + j = o + (k * r.size + i * r.size) + j from by omega]
    exact this
theorem while_split {α : Type} (p : α → Bool) : ∀ (l : List α) (j : Nat), (∀ x ∈ l.take j, p x = true) → (l.length ≤ j ∨ ∃ y, l[j]? = some y ∧ p y = false) → l.takeWhile p = l.take j ∧ l.dropWhile p = l.drop j
  | [], j, _, _ => by simp
  | x :: l, 0, _, h => by
    rcases h with h | ⟨y, h1, h2⟩
    · simp at h
    · cases h1
      simp [h2]
  | x :: l, j + 1, h, h' => by
    have hx : p x = true := h x (by simp)
    have ih := while_split p l j (fun y hy => h y (by simp [hy])) (by
      rcases h' with h' | ⟨y, h1, h2⟩
      · exact .inl (by simpa using h')
      · exact .inr ⟨y, by simpa using h1, h2⟩)
    simp [hx, ih.1, ih.2]
theorem run_fromD {P : Program} {t e : TypeId} {z : Nat} (ht : P.underlying t = some (.slice (P.elem t))) (he : P.elem t = e) (hs : ∀ w, (sizeOf e).run P w = .ok z w) (A : Option Addr) (n c k : Nat) (h : k ≤ n) (w : World) :
    (Instr.slice t (.slice A n c) (some (.int .i64 (k : Int))) none none).run P w = .ok (.slice (if c = k then A else A.map (·.add (k * z))) (n - k) (c - k)) w := by
  subst he
  rw [run_slice_l w t A n c ht .i64 (k : Int) (by omega) (by omega), hs]
  simp [Result.andThen, sliced]

theorem results_cell_slotP {P : Program} {fn : Func} {p q : Tmp} {ty : TypeId} (h : fn.results = #[.cell p ty, .tmp q]) (tmps : Array Value) (w : World) (g : Nat) (t : TypeId) (cs : Array Value) (fr : Nat × Nat) (d : TypeDesc)
    (hp : tmps.getD p undef = .pointer (some ⟨g, 0, none⟩)) (hg : w.heap[g]? = some (.cells cs t fr))
    (hu : P.underlying ty = some d) (hd : (match d with | .struct _ | .array _ _ => true | _ => false) = true) (hi : (P.info? ty).map (·.size) = some cs.size) :
    (results fn tmps).run P w = .ok (.tuple #[.agg cs, tmps.getD q undef]) w := by
  have hp' : tmps[p]?.getD undef = .pointer (some ⟨g, 0, none⟩) := by simpa using hp
  simp [results, h, hp', asAddr, run_loadVar_row w g t ty cs fr d hg hu hd hi]
end Go.Proofs.YtminjjdnmpaaoaaGreatDoor
set_option autoImplicit false
set_option relaxedAutoImplicit false
set_option linter.unusedVariables false
set_option linter.unusedSimpArgs false
namespace Go.Proofs.YtminjjdnmpaaoaaGreatDoor
open Go.Rows Go.RowKit Go.Shelf Go.Sort

/-! ### can the graph be placed -/
set_option maxHeartbeats 3200000 in
set_option maxRecDepth 100000 in
theorem may_any (C : PlCtx) (hC : C.Ok) (w : World) (st : PlSt) (hw : PlWd C w st) :
    Calls Tryz.prog 22 #[.pointer (some ⟨C.P, 0, none⟩)] w fun e w' => e = .returned (.bool (mayPl C.q.g C.q.ps)) ∧ Below w.heap.size w w' := by
  obtain ⟨A, c, A', c', hr⟩ := hw.read
  have x0 := hr.c0
  have x1 := hr.c1
  have hgl := hC.g.n_eq
  have hpl := hC.p.n_eq
  have hgcap := slv_len hC.g
  have hpcap := slv_len hC.p
  have HF : Hid (∀ W (i : Nat), Below w.heap.size w W → i < C.gn → C.pn = C.gn → ∃ (n : Node) (x : Pack), C.q.g[i]? = some n ∧ C.q.ps[i]? = some x ∧ Calls Tryz.prog 46 #[.pointer (some ⟨C.P, 0, none⟩), .int .i64 (i : Int)] W fun e w' => e = .returned (.bool (formP C.q.g i n x)) ∧ Below W.heap.size W w') := fun W i hW hi hp => by
    have h1 : i < C.q.g.length := by omega
    have h2 : i < C.q.ps.length := by omega
    exact ⟨_, _, List.getElem?_eq_getElem h1, List.getElem?_eq_getElem h2, plFormed_any C hC W st (hw.keep hC hW) i (List.getElem?_eq_getElem h1) (List.getElem?_eq_getElem h2)⟩
  have HR : Hid (mayPl C.q.g C.q.ps = (decide (1 ≤ C.gn) && (decide (C.gn ≤ 128) && (decide (C.pn = C.gn) && formGo C.q.g 0 (C.q.g.drop 0) (C.q.ps.drop 0))))) := by
    unfold Hid mayPl; rw [hgl, hpl]; rfl
  have Hgl := Lib.hid hgl
  have Hpl := Lib.hid hpl
  have hHP := hr.hP
  clear hr hw hC hgl hpl
  generalize mayPl C.q.g C.q.ps = R at *
  generalize C.gn = gn at *
  generalize C.pn = pn at *
  generalize C.P = PB at *
  go_enter Tryz.func22, Tryz.ntmps22
  by_cases h1 : 1 ≤ gn
  case neg =>
    have hI : (gn : Int) < 1 := by omega
    have Hr : Hid (R = false) := by unfold Hid; rw [HR.out, decide_eq_false h1]; rfl
    clear HR h1
    go_wp2_with fail
    go_ret
    exact ⟨ret_bP Hr.out.symm, Below.refl _ _⟩
  have hI : ¬ (gn : Int) < 1 := by omega
  by_cases h2 : gn ≤ 128
  case neg =>
    have hI2 : (128 : Int) < (gn : Int) := by omega
    have hD2 : decide (128 < gn) = true := decide_eq_true (by omega)
    have Hr : Hid (R = false) := by unfold Hid; rw [HR.out, decide_eq_true h1, decide_eq_false h2]; rfl
    clear HR h1 h2
    go_wp2_with fail
    go_ret
    exact ⟨ret_bP Hr.out.symm, Below.refl _ _⟩
  have hI2 : ¬ (128 : Int) < (gn : Int) := by omega
  have hD2 : decide (128 < gn) = false := decide_eq_false (by omega)
  by_cases h3 : pn = gn
  case neg =>
    have hI3 : ((pn : Int) != (gn : Int)) = true := by show (!((pn : Int) == (gn : Int))) = true; rw [beq_eq_false_iff_ne.2 (by omega)]; rfl
    have hI4 : ((pn : Int) == (gn : Int)) = false := beq_eq_false_iff_ne.2 (by omega)
    have Hr : Hid (R = false) := by unfold Hid; rw [HR.out, decide_eq_true h1, decide_eq_true h2, decide_eq_false h3]; rfl
    clear HR h1 h2 h3
    go_wp2_with fail
    go_ret
    exact ⟨ret_bP Hr.out.symm, Below.refl _ _⟩
  have HR2 : Hid (R = formGo C.q.g 0 (C.q.g.drop 0) (C.q.ps.drop 0)) := by
    unfold Hid; rw [HR.out, decide_eq_true h1, decide_eq_true h2, decide_eq_true h3, Bool.true_and, Bool.true_and, Bool.true_and]
  subst h3
  clear HR h1
  have hI3 : ((pn : Int) == (pn : Int)) = true := beq_self_eq_true _
  go_wp2_with fail
  go_loopw [27] (fun t wr => ∃ k : Nat, k ≤ pn ∧ t = .int .i64 k ∧ Hid (R = formGo C.q.g k (C.q.g.drop k) (C.q.ps.drop k)) ∧ Hid (Below w.heap.size w wr)) (fun t _ => pn - (intOf t).toNat)
  case atStart => exact ⟨0, Nat.zero_le _, rfl, HR2, Below.refl _ _⟩
  case round =>
    clear HR2 x0 x1
    obtain ⟨k, hk, rfl, heq, hbel⟩ := hrel
    have hk0 : (0 : Int) ≤ (k : Int) := by omega
    by_cases hlt : k < pn
    case neg =>
      have He : Hid (R = true) := by unfold Hid; rw [heq.out, formGo_done _ (by have := Hgl.out; omega) (by have := Hpl.out; omega)]
      have hI : ¬ (k : Int) < (pn : Int) := by omega
      clear heq
      go_wp2_with fail
      go_ret
      exact ⟨ret_bP He.out.symm, hbel.out⟩
    have hkn : (k : Int) < (pn : Int) := by omega
    obtain ⟨n, x, hn, hx, hcall⟩ := HF.out wr k hbel.out hlt (by trivial)
    have Hst := Lib.hid (heq.out.trans (formGo_step _ hn hx))
    have Hcall := Lib.hid hcall
    clear heq hn hx hcall
    generalize formP C.q.g k n x = v at *
    cases v with
    | false =>
      have He : Hid (R = false) := Hst.out
      clear Hst
      go_wp2_with fail
      refine Hcall.out.mono ?_
      rintro e w1 ⟨rfl, B1⟩
      go_wp2_with fail
      go_ret
      exact ⟨ret_bP He.out.symm, bot hbel.out B1⟩
    | true =>
      have He : Hid (R = formGo C.q.g (k + 1) (C.q.g.drop (k + 1)) (C.q.ps.drop (k + 1))) := by unfold Hid; rw [Hst.out, Bool.true_and]
      clear Hst
      go_wp2_with fail
      refine Hcall.out.mono ?_
      rintro e w1 ⟨rfl, B1⟩
      go_wp2_with fail
      go_roundw
      case rel => exact ⟨k + 1, by omega, by go_num, He, bot hbel.out B1⟩
      case measure => simp [intOf]; omega
end Go.Proofs.YtminjjdnmpaaoaaGreatDoor
set_option autoImplicit false
set_option relaxedAutoImplicit false
set_option linter.unusedVariables false
set_option linter.unusedSimpArgs false
namespace Go.Proofs.YtminjjdnmpaaoaaGreatDoor
open Go.Rows Go.RowKit Go.Shelf Go.Sort

theorem nodup_le {α : Type} [DecidableEq α] : ∀ {l m : List α}, l.Nodup → (∀ x ∈ l, x ∈ m) → l.length ≤ m.length
  | [], m, _, _ => Nat.zero_le _
  | a :: l, m, hn, hs => by
    rw [List.nodup_cons] at hn
    have ha := hs a List.mem_cons_self
    have h1 := nodup_le (l := l) (m := m.erase a) hn.2 (fun x hx => (List.mem_erase_of_ne (by intro e; subst e; exact hn.1 hx)).2 (hs x (List.mem_cons_of_mem _ hx)))
    rw [List.length_erase_of_mem ha] at h1
    have h2 : 0 < m.length := List.length_pos_of_mem ha
    simp only [List.length_cons]; omega
theorem may_edges {q : PlIn} (h : mayPl q.g q.ps = true) {j : Nat} {n : Node} (hj : q.g[j]? = some n) : n.edges.length ≤ 128 := by
  have h1 := may_labels h hj
  have h2 : (edgeNames n.edges).length ≤ (q.g.map (·.name)).length := nodup_le h1 fun s hs => by
    obtain ⟨e, he, rfl⟩ := List.mem_map.1 hs
    obtain ⟨h1, h2, h3, _⟩ := may_edge h hj he
    have hlt : e.to.toNat < q.g.length := by omega
    refine List.mem_map.2 ⟨q.g[e.to.toNat], List.getElem_mem hlt, ?_⟩
    rw [← h3]; unfold nodeAt; rw [List.getD_eq_getElem?_getD, List.getElem?_eq_getElem hlt]; rfl
  rw [List.length_map] at h2
  unfold edgeNames at h2
  rw [List.length_map] at h2
  exact Nat.le_trans h2 (may_form h).2.1

theorem elt_edgeP : Elt Tryz.prog 61 2 24 := Elt.mk' (z := .agg #[.string ⟨#[]⟩, .int .i64 0]) (by kernel_rfl) rfl (by decide)
theorem one_new (w : World) (oa : Obj) : Below w.heap.size w (w.alloc oa).drew ∧ (w.alloc oa).drew.heap[w.heap.size]? = some oa := ⟨(bal (Below.refl _ _) _).drew, heap_new w oa⟩
theorem Own.frame {α : Type} {r : Rp α} {w w' : World} {base : Nat} {e : TypeId} {v : Value} {l : List α} (h : Own r w base e v l (fun _ => False)) (hk : ∀ b, v.ownBlock = some b → w'.heap[b]? = w.heap[b]?) : Own r w' base e v l (fun _ => False) := by
  obtain ⟨h0, xs, h1, h2⟩ := h
  refine ⟨fun b hb => hb.elim, xs, ⟨h1.1, ?_⟩, h2.mono fun b hb _ => hb.elim⟩
  rcases h1.2 with hn | ⟨g, cap, cur, rfl, hb, hgg, rest⟩
  · exact .inl hn
  · exact .inr ⟨g, cap, cur, rfl, hb, (hk g rfl).trans hgg, rest⟩
theorem PlP.notPl {C : PlCtx} {w : World} {st : PlSt} {A : Option Addr} {c : Nat} {A' : Option Addr} {c' : Nat} {S : Nat → Prop} (h : PlP C w st A c A' c' S) {b : Nat} (h1 : b ≠ C.P) (h2 : (Value.slice A st.1.length c).ownBlock ≠ some b) (h3 : (Value.slice A' st.2.length c').ownBlock ≠ some b) : NotPl C w b :=
  ⟨h1, fun v hv => by rw [cell_of_row _ _ 7 _ _ _ h.row] at hv; cases hv; exact h2, fun v hv => by rw [cell_of_row _ _ 8 _ _ _ h.row] at hv; cases hv; exact h3⟩
theorem PlP.notNew {C : PlCtx} {w w' : World} {st : PlSt} {A : Option Addr} {c : Nat} {A' : Option Addr} {c' : Nat} {S : Nat → Prop} (h : PlP C w st A c A' c' S) (hb : Below w.heap.size w w') {b : Nat} (h1 : w.heap.size ≤ b) : NotPl C w' b :=
  (h.keep hb).notPl (by have := h.hP; omega) (fun e => by have := (h.T.lt _ e).2; omega) (fun e => by have := (h.S'.lt _ e).2; omega)
theorem NotPl.grown {C : PlCtx} {w w' : World} {row : Option Nat} {b : Nat} (hn : NotPl C w b) (hP : C.P < w.heap.size) (hg : w.grownBy w' row) (hr : row ≠ some C.P) : NotPl C w' b :=
  ⟨hn.1, fun v hv => hn.2.1 v (by rw [← cell_same (hg.block C.P hP (fun e => hr e.symm)) 7 none]; exact hv), fun v hv => hn.2.2 v (by rw [← cell_same (hg.block C.P hP (fun e => hr e.symm)) 8 none]; exact hv)⟩
theorem PlFr.grown {C : PlCtx} {w w1 w2 : World} {row : Option Nat} (h : PlFr C w w1) (hP : C.P < w1.heap.size) (hg : w1.grownBy w2 row) (hr : ∀ b, row = some b → w.heap.size ≤ b ∧ b ≠ C.P) : PlFr C w w2 :=
  ⟨Nat.le_trans h.1 hg.size, fun b hb hn => by
    obtain ⟨h1, h2⟩ := h.2 b hb hn
    exact ⟨(hg.block b (Nat.lt_of_lt_of_le hb h.1) (fun e => by have := (hr b e.symm).1; omega)).trans h1, h2.grown hP hg (fun e => (hr _ e).2 rfl)⟩⟩
theorem PlFr.refl (C : PlCtx) (w : World) : PlFr C w w := ⟨Nat.le_refl _, fun b _ hn => ⟨rfl, hn⟩⟩
theorem PlP.grown {C : PlCtx} {w w' : World} {st : PlSt} {A : Option Addr} {c : Nat} {A' : Option Addr} {c' : Nat} {S : Nat → Prop} (h : PlP C w st A c A' c' S) {row : Option Nat} (hg : w.grownBy w' row) (hr : ∀ b, row = some b → NotPl C w b ∧ ¬ S b ∧ C.w0.heap.size ≤ b) : PlP C w' st A c A' c' S := by
  refine ⟨by rw [hg.block C.P h.hP (fun e => (hr _ e.symm).1.1 rfl)]; exact h.row, h.T.grown hg ?_ (fun b hb e => (hr b e.symm).2.1 hb), h.S'.grown hg ?_ (fun b hb => hb.elim), h.apart, h.tp, h.sp, h.ts, h.base.grown hg h.base.size (fun k hk => (hr k hk).2.2), h.new⟩
  · cases hk : (Value.slice A st.1.length c).ownBlock with
    | none => exact .inl rfl
    | some k => exact .inr fun e => (hr k e.symm).1.2.1 _ (cell_of_row _ _ 7 _ _ _ h.row) hk
  · cases hk : (Value.slice A' st.2.length c').ownBlock with
    | none => exact .inl rfl
    | some k => exact .inr fun e => (hr k e.symm).1.2.2 _ (cell_of_row _ _ 8 _ _ _ h.row) hk

theorem Own.slvO {α : Type} {r : Rp α} {w : World} {base : Nat} {e : TypeId} {v : Value} {l : List α} (h : Own r w base e v l (fun _ => False)) : SlV r w (fun b => v.ownBlock = some b) l v := by
  obtain ⟨h0, xs, h1, h2⟩ := h
  have h1' := h1
  rcases h1.2 with ⟨rfl, hn⟩ | ⟨g, cap, cur, rfl, hb, hg, hnc, hcm, hsz, htake⟩
  · have : l = [] := List.eq_nil_of_length_eq_zero hn
    subst this
    exact SlV.nil_ _ _ _
  · refine ⟨some ⟨g, 0, none⟩, cap, rfl, hnc, hcm, (fun h => by cases h), fun _ => ⟨g, 0, rfl, rfl, (Array.getElem?_eq_some_iff.1 hg).1, fun i x hx => ?_⟩⟩
    obtain ⟨cs, hc, hcell⟩ := h2.get i x hx
    refine ⟨cs, r.mono hc fun b hb _ => hb.elim, fun j u hu => ?_⟩
    have h3 := h1'.cells (g := g) rfl _ u (hcell j u hu)
    rw [add_lit', Nat.zero_add] at h3
    rw [Nat.zero_add]
    exact h3
theorem elems_edge {w w' : World} {S S' : Nat → Prop} : ∀ {l : List Edge} {xs : List Value}, Elems rEdge w S l xs → Elems rEdge w' S' l xs
  | [], _, h => h
  | x :: l, _, ⟨cs, rest, h1, h2, h3⟩ => ⟨cs, rest, h1, h2, elems_edge h3⟩
theorem own_edges {w : World} {base : Nat} {e : TypeId} {v : Value} {l : List Edge} {S : Nat → Prop} (h : Own rEdge w base e v l S) : Own rEdge w base e v l (fun _ => False) := by
  obtain ⟨h0, xs, h1, h2⟩ := h
  exact ⟨fun b hb => hb.elim, xs, h1, elems_edge h2⟩
theorem ofKind_len {q : PlIn} {n : Node} {kind : Nat} {l : List Edge} {k : Nat} : (ofKind q n kind (l.take k)).length ≤ k := by
  unfold ofKind
  have := List.length_filter_le (fun e => decide (kindP q n e = kind)) (l.take k)
  rw [List.length_take] at this
  omega
/-- a placer beside two rows of edges of the call's own -/
structure DirL (C : PlCtx) (w1 wr : World) (st : PlSt) (S : Nat → Prop) (vA : Value) (al : List Edge) (vO : Value) (ot : List Edge) : Prop where
  pl : PlS C wr st S
  al : Own rEdge wr w1.heap.size 61 vA al (fun _ => False)
  ot : Own rEdge wr w1.heap.size 61 vO ot (fun _ => False)
  nA : ∀ b, vA.ownBlock = some b → NotPl C wr b ∧ ¬ S b
  nO : ∀ b, vO.ownBlock = some b → NotPl C wr b ∧ ¬ S b
  ao : ∀ b, vA.ownBlock = some b → vO.ownBlock ≠ some b
  fr : PlFr C w1 wr
section
variable {C : PlCtx} {w1 wr w' : World} {st st' : PlSt} {S : Nat → Prop} {vA vO : Value} {al ot : List Edge}
theorem DirL.start (h : PlS C w1 st S) : DirL C w1 w1 st S (.slice none 0 0) [] (.slice none 0 0) [] :=
  ⟨h, Own.nil_ rEdge w1 _ _ (fun b hb => hb.elim), Own.nil_ rEdge w1 _ _ (fun b hb => hb.elim), fun b e => (by cases e), fun b e => (by cases e), fun b e => (by cases e), PlFr.refl C w1⟩
theorem DirL.keep (h : DirL C w1 wr st S vA al vO ot) (hb : Below wr.heap.size wr w') : DirL C w1 w' st S vA al vO ot := by
  obtain ⟨A, c, A', c', hp⟩ := h.pl
  exact ⟨h.pl.keep hb, h.al.keep hb, h.ot.keep hb, fun b e => ⟨((PlFr.below hp.hP hb).2 b (h.al.lt b e).2 (h.nA b e).1).2, (h.nA b e).2⟩, fun b e => ⟨((PlFr.below hp.hP hb).2 b (h.ot.lt b e).2 (h.nO b e).1).2, (h.nO b e).2⟩, h.ao, h.fr.trans (PlFr.below hp.hP hb)⟩
theorem DirL.swap (h : DirL C w1 wr st S vA al vO ot) : DirL C w1 wr st S vO ot vA al := ⟨h.pl, h.ot, h.al, h.nO, h.nA, fun b e e' => h.ao b e' e, h.fr⟩
theorem DirL.settle (h : DirL C w1 wr st S vA al vO ot) (hs : PlS C w' st' S) (hf : PlFr C wr w') : DirL C w1 w' st' S vA al vO ot :=
  ⟨hs, h.al.frame (fun b e => (hf.2 b (h.al.lt b e).2 (h.nA b e).1).1), h.ot.frame (fun b e => (hf.2 b (h.ot.lt b e).2 (h.nO b e).1).1), fun b e => ⟨(hf.2 b (h.al.lt b e).2 (h.nA b e).1).2, (h.nA b e).2⟩, fun b e => ⟨(hf.2 b (h.ot.lt b e).2 (h.nO b e).1).2, (h.nO b e).2⟩, h.ao, h.fr.trans hf⟩
theorem DirL.pushV (h : DirL C w1 wr st S vA al vO ot) (hw : C.w0.heap.size ≤ w1.heap.size) {v' : Value} {l' : List Edge} {T : Nat → Prop} (hT : ∀ b, T b → b ≠ C.P)
    (hgrow : wr.grownBy w' vA.ownBlock) (hat : ∀ g, v'.ownBlock = some g → vA.ownBlock = some g ∨ wr.heap.size ≤ g) :
    PlS C w' st S ∧ (∀ g, v'.ownBlock = some g → NotPl C w' g ∧ ¬ S g ∧ vO.ownBlock ≠ some g) ∧ Own rEdge w' w1.heap.size 61 vO ot (fun _ => False) ∧ (∀ b, vO.ownBlock = some b → NotPl C w' b ∧ ¬ S b) ∧ PlFr C w1 w' := by
  obtain ⟨A, c, A', c', hp⟩ := h.pl
  have hr : ∀ b, vA.ownBlock = some b → NotPl C wr b ∧ ¬ S b ∧ C.w0.heap.size ≤ b := fun b e => ⟨(h.nA b e).1, (h.nA b e).2, Nat.le_trans hw (h.al.lt b e).1⟩
  have hp9 := hp.grown hgrow hr
  have hne : vA.ownBlock ≠ some C.P := fun e' => (h.nA _ e').1.1 rfl
  refine ⟨⟨A, c, A', c', hp9⟩, fun g hg => ?_, ?_, fun b e => ⟨(h.nO b e).1.grown hp.hP hgrow hne, (h.nO b e).2⟩, h.fr.grown hp.hP hgrow (fun b e => ⟨(h.al.lt b e).1, (h.nA b e).1.1⟩)⟩
  · rcases hat g hg with e | e
    · exact ⟨(h.nA g e).1.grown hp.hP hgrow hne, (h.nA g e).2, h.ao g e⟩
    · exact ⟨hp9.notPl (by have := hp.hP; omega) (fun e' => by have := (hp.T.lt _ e').2; omega) (fun e' => by have := (hp.S'.lt _ e').2; omega), fun hs => by have := (hp.T.1 g hs).1; omega, fun e' => by have := (h.ot.lt _ e').2; omega⟩
  · refine h.ot.grown hgrow ?_ (fun b hb => hb.elim)
    cases hk : vO.ownBlock with
    | none => exact .inl rfl
    | some k => exact .inr fun e => h.ao k e.symm hk
theorem DirL.push (h : DirL C w1 wr st S vA al vO ot) (hw : C.w0.heap.size ≤ w1.heap.size) {g n cap : Nat} {l' : List Edge} (hown : Own rEdge w' w1.heap.size 61 (.slice (some ⟨g, 0, none⟩) n cap) l' (fun _ => False))
    (hgrow : wr.grownBy w' vA.ownBlock) (hat : vA.ownBlock = some g ∨ wr.heap.size ≤ g) : DirL C w1 w' st S (.slice (some ⟨g, 0, none⟩) n cap) l' vO ot := by
  obtain ⟨h1, h2, h3, h4, h5⟩ := h.pushV hw (v' := .slice (some ⟨g, 0, none⟩) n cap) (l' := l') (T := fun _ => False) (fun b hb => hb.elim) hgrow (fun g' e => by cases e; exact hat)
  exact ⟨h1, hown, h3, fun b e => ⟨(h2 b e).1, (h2 b e).2.1⟩, h4, fun b e => (h2 b e).2.2, h5⟩
end

/-! ### the same in plain words -/
structure DirP (q : PlIn) (at_ : Nat) (n : Node) (st : PlSt) (k : Nat) (stk : PlSt) : Prop where
  go : kindGo q at_ n 1 (n.edges.drop k) stk = kindGo q at_ n 1 n.edges st
  inv : ∃ done, PlInv q at_ done stk ∧ DoneAt q n 1 k done
  fst : stk.1 = st.1
  len : stk.2.length + (ofKind q n 2 (n.edges.take k)).length + (ofKind q n 3 (n.edges.take k)).length ≤ st.2.length + k
section
variable {q : PlIn} {at_ : Nat} {n : Node} {st stk : PlSt} {k : Nat} {e : Edge}
theorem DirP.start (h : PlInv q at_ [] st) : DirP q at_ n st 0 st := ⟨rfl, ⟨[], h, fun s hs => by cases hs⟩, rfl, by simp [ofKind]⟩
theorem DirP.bad (h : DirP q at_ n st k stk) (he : n.edges[k]? = some e) (hk : kindP q n e = 1) (hr : rightP q stk at_ 1 e = false) : kindGo q at_ n 1 n.edges st = .error 33 := by
  rw [← h.go, kindGo_at q at_ n 1 he, if_pos hk]
  unfold stepE
  rw [if_neg (by rw [hr]; decide), if_pos rfl]
theorem DirP.one (h : DirP q at_ n st k stk) (hm : mayPl q.g q.ps = true) (hq : q.path ≤ 1024) (hqd : q.dirs ≤ 256) {d : Dir} (hd : st.1[at_]? = some d) {j : Nat} (hn : q.g[j]? = some n) (he : n.edges[k]? = some e) (hk : kindP q n e = 1) (hr : rightP q stk at_ 1 e = true) :
    DirP q at_ n st (k + 1) (stk.1, stk.2 ++ [⟨at_, e.label, (lookI stk.1 (at_ : Int) e.label).toNat⟩]) ∧ ofKind q n 2 (n.edges.take (k + 1)) = ofKind q n 2 (n.edges.take k) ∧ ofKind q n 3 (n.edges.take (k + 1)) = ofKind q n 3 (n.edges.take k) := by
  have h2 : ofKind q n 2 (n.edges.take (k + 1)) = ofKind q n 2 (n.edges.take k) := by rw [ofKind_take he, if_neg (by omega), List.append_nil]
  have h3 : ofKind q n 3 (n.edges.take (k + 1)) = ofKind q n 3 (n.edges.take k) := by rw [ofKind_take he, if_neg (by omega), List.append_nil]
  have hst := stepE_right hr
  obtain ⟨done, i1, i2⟩ := h.inv
  have hlab := may_labels hm hn
  have hdk : stk.1[at_]? = some d := by rw [h.fst]; exact hd
  refine ⟨⟨?_, ⟨_, (stepE_inv i1 hm hq hqd hdk hn (List.mem_of_getElem? he) (i2.not hlab he hk) hst).1, i2.step he hk⟩, h.fst, ?_⟩, h2, h3⟩
  · rw [← h.go, kindGo_at q at_ n 1 he, if_pos hk, hst]
  · rw [h2, h3]
    have := h.len
    simp only [List.length_append, List.length_cons, List.length_nil]
    omega
theorem DirP.other (h : DirP q at_ n st k stk) (he : n.edges[k]? = some e) (hk : kindP q n e ≠ 1) : DirP q at_ n st (k + 1) stk := by
  obtain ⟨done, i1, i2⟩ := h.inv
  refine ⟨?_, ⟨done, i1, i2.more (Nat.le_succ k)⟩, h.fst, ?_⟩
  · rw [← h.go, kindGo_at q at_ n 1 he, if_neg hk]
  · have := h.len
    have hr := kindP_range q n e
    rw [ofKind_take he, ofKind_take he, List.length_append, List.length_append]
    by_cases h2 : kindP q n e = 2
    · rw [if_pos h2, if_neg (by omega)]
      simp only [List.length_cons, List.length_nil]; omega
    · rw [if_neg h2, if_pos (by omega)]
      simp only [List.length_cons, List.length_nil]; omega
theorem DirP.done_ (h : DirP q at_ n st n.edges.length stk) : kindGo q at_ n 1 n.edges st = .ok stk := by
  rw [← h.go, List.drop_eq_nil_of_le (Nat.le_refl _)]; rfl
/-- the second loop -/
structure DirR (q : PlIn) (at_ : Nat) (n : Node) (d : Dir) (R : Except Int PlSt) (L : Nat) (k : Nat) (stk : PlSt) : Prop where
  go : ownGo q at_ n ((restE q n).drop k) stk = R
  inv : ∃ done, PlInv q at_ done stk ∧ ∀ e ∈ (restE q n).drop k, e.label ∉ done
  dir : stk.1[at_]? = some d
  len : stk.2.length + (restE q n).length ≤ L + k
theorem DirP.rest (h : DirP q at_ n st n.edges.length stk) (hm : mayPl q.g q.ps = true) {j : Nat} (hn : q.g[j]? = some n) {d : Dir} (hd : st.1[at_]? = some d) : DirR q at_ n d (ownGo q at_ n (restE q n) stk) (st.2.length + n.edges.length) 0 stk := by
  obtain ⟨done, i1, i2⟩ := h.inv
  refine ⟨rfl, ⟨done, i1, rest_start (may_labels hm hn) i2.turn⟩, by rw [h.fst]; exact hd, ?_⟩
  have := h.len
  rw [List.take_of_length_le (Nat.le_refl _)] at this
  unfold restE
  rw [List.length_append]
  omega
theorem DirR.step {d : Dir} {R : Except Int PlSt} {L : Nat} (h : DirR q at_ n d R L k stk) (hm : mayPl q.g q.ps = true) (hq : q.path ≤ 1024) (hqd : q.dirs ≤ 256) {j : Nat} (hn : q.g[j]? = some n) (he : (restE q n)[k]? = some e) :
    (∀ c, stepE q at_ (kindP q n e) e stk = .error c → R = .error c) ∧ (∀ st', stepE q at_ (kindP q n e) e stk = .ok st' → DirR q at_ n d R L (k + 1) st') := by
  obtain ⟨done, i1, i2⟩ := h.inv
  obtain ⟨g1, g2, g3⟩ := rest_step (may_labels hm hn) i2 he
  refine ⟨fun c hc => ?_, fun st' hs => ?_⟩
  · rw [← h.go, ownGo_at q at_ n he, hc]
  · obtain ⟨k1, ⟨l, k2⟩, k3⟩ := stepE_inv i1 hm hq hqd h.dir hn g1 g2 hs
    refine ⟨by rw [← h.go, ownGo_at q at_ n he, hs], ⟨_, k1, g3⟩, ?_, by rw [k3]; have := h.len; omega⟩
    rw [k2, List.getElem?_append_left (List.getElem?_eq_some_iff.1 h.dir).1]; exact h.dir
theorem DirR.done_ {d : Dir} {R : Except Int PlSt} {L : Nat} (h : DirR q at_ n d R L (restE q n).length stk) : R = .ok stk ∧ stk.2.length ≤ L ∧ PlInv q (at_ + 1) [] stk := by
  obtain ⟨done, i1, _⟩ := h.inv
  refine ⟨?_, by have := h.len; omega, i1.next⟩
  rw [← h.go, List.drop_eq_nil_of_le (Nat.le_refl _)]; rfl
end
end Go.Proofs.YtminjjdnmpaaoaaGreatDoor
