/-
  The document's placer in memory: what it holds. (Printed by gen_dla.py out of the texts on the program's placer.)
-/
import Derived.Test.YtminjjdnmpaaoaaGreatDoorPp22
set_option autoImplicit false
set_option relaxedAutoImplicit false
set_option linter.unusedVariables false
set_option linter.unusedSimpArgs false
namespace Go.Proofs.YtminjjdnmpaaoaaGreatDoor
open Go.Rows Go.RowKit Go.Shelf Go.Sort

theorem elt_stlD : Elt Tryz.prog 130 3 32 := Elt.mk' (z := .agg #[.int .i64 0, .string ⟨#[]⟩, .int .i64 0]) (by kernel_rfl) rfl (by decide)
/-- what a placer is given -/
structure DlCtx where
  w0 : World
  P : Nat
  gA : Option Addr
  gn : Nat
  gc : Nat
  pA : Option Addr
  pn : Nat
  pc : Nat
  dec : Int
  nod : Int
  oA : Option Addr
  on : Nat
  oc : Nat
  like : Bool
  ol : List Dir
  q : PlIn
structure DlCtx.Ok (C : DlCtx) : Prop where
  tab : Tab C.w0
  g : SlV rNode C.w0 (fun b => b < C.w0.heap.size) C.q.g (.slice C.gA C.gn C.gc)
  p : SlV rPack C.w0 (fun b => b < C.w0.heap.size) C.q.ps (.slice C.pA C.pn C.pc)
  o : SlV rDir C.w0 (fun b => b < C.w0.heap.size) C.ol (.slice C.oA C.on C.oc)
  old : C.q.old = if C.like = true then some C.ol else none
  oz : ∀ d ∈ C.ol, d.path.length * 32 ≤ 140737488355328
  le : C.w0.heap.size ≤ C.P
  dirs : I64 C.q.dirs
  path : I64 C.q.path
  gz : C.q.g.length ≤ 1048576
  pz : C.q.ps.length ≤ 1048576
/-- the placer's row -/
def dlRow (C : DlCtx) (vT vS : Value) : Array Value := #[.slice C.gA C.gn C.gc, .slice C.pA C.pn C.pc, .int .i64 C.dec, .int .i64 C.nod, .int .i64 C.q.dirs, .int .i64 C.q.path, .slice C.oA C.on C.oc, .bool C.like, vT, vS]
/-- the parts of a placer in memory -/
structure DlP (C : DlCtx) (w : World) (st : PlSt) (A : Option Addr) (c : Nat) (A' : Option Addr) (c' : Nat) (S : Nat → Prop) : Prop where
  row : w.heap[C.P]? = some (.cells (dlRow C (.slice A st.1.length c) (.slice A' st.2.length c')) 87 (0, 0))
  T : Own rDir w C.w0.heap.size 54 (.slice A st.1.length c) st.1 S
  S' : Own rStl w C.w0.heap.size 130 (.slice A' st.2.length c') st.2 (fun _ => False)
  apart : ∀ b, S b → b ≠ C.P ∧ (Value.slice A' st.2.length c').ownBlock ≠ some b
  tp : (Value.slice A st.1.length c).ownBlock ≠ some C.P
  sp : (Value.slice A' st.2.length c').ownBlock ≠ some C.P
  ts : ∀ k, (Value.slice A st.1.length c).ownBlock = some k → (Value.slice A' st.2.length c').ownBlock ≠ some k
  base : Below C.w0.heap.size C.w0 w
  old : ∀ b, b < C.w0.heap.size → S b
def DlWd (C : DlCtx) (w : World) (st : PlSt) : Prop := ∃ A c A' c' S, DlP C w st A c A' c' S
theorem DlWd.parts {C : DlCtx} {w : World} {st : PlSt} (h : DlWd C w st) : ∃ A c A' c' S, DlP C w st A c A' c' S := h
theorem DlP.all {C : DlCtx} {w : World} {st : PlSt} {A : Option Addr} {c : Nat} {A' : Option Addr} {c' : Nat} {S : Nat → Prop} (h : DlP C w st A c A' c' S) : DlWd C w st := ⟨A, c, A', c', S, h⟩
theorem DlWd.base {C : DlCtx} {w : World} {st : PlSt} (h : DlWd C w st) : Below C.w0.heap.size C.w0 w := by
  obtain ⟨A, c, A', c', S, h⟩ := h
  exact h.base
theorem DlP.hP {C : DlCtx} {w : World} {st : PlSt} {A : Option Addr} {c : Nat} {A' : Option Addr} {c' : Nat} {S : Nat → Prop} (h : DlP C w st A c A' c' S) : C.P < w.heap.size := (Array.getElem?_eq_some_iff.1 h.row).1
theorem DlP.keep {C : DlCtx} {w w' : World} {st : PlSt} {A : Option Addr} {c : Nat} {A' : Option Addr} {c' : Nat} {S : Nat → Prop} (h : DlP C w st A c A' c' S) (hb : Below w.heap.size w w') : DlP C w' st A c A' c' S :=
  ⟨(hb.block _ h.hP).trans h.row, h.T.keep hb, h.S'.keep hb, h.apart, h.tp, h.sp, h.ts, bot h.base hb, h.old⟩
/-- a placer whose directories' own memory lies in S -/
def DlS (C : DlCtx) (w : World) (st : PlSt) (S : Nat → Prop) : Prop := ∃ A c A' c', DlP C w st A c A' c' S
theorem DlS.all {C : DlCtx} {w : World} {st : PlSt} {S : Nat → Prop} (h : DlS C w st S) : DlWd C w st := by
  obtain ⟨A, c, A', c', h⟩ := h
  exact h.all
theorem DlWd.s {C : DlCtx} {w : World} {st : PlSt} (h : DlWd C w st) : ∃ S, DlS C w st S := by
  obtain ⟨A, c, A', c', S, h⟩ := h.parts
  exact ⟨S, A, c, A', c', h⟩
theorem DlS.keep {C : DlCtx} {w w' : World} {st : PlSt} {S : Nat → Prop} (h : DlS C w st S) (hb : Below w.heap.size w w') : DlS C w' st S := by
  obtain ⟨A, c, A', c', h⟩ := h
  exact ⟨A, c, A', c', h.keep hb⟩
/-- a lookup more -/
theorem DlP.push_stl {C : DlCtx} (hC : C.Ok) {w w9 : World} {st : PlSt} {A : Option Addr} {c : Nat} {A' : Option Addr} {c' : Nat} {S : Nat → Prop} (h : DlP C w st A c A' c' S) {x : Stl} {g cap : Nat}
    (hown : Own rStl w9 C.w0.heap.size 130 (.slice (some ⟨g, 0, none⟩) (st.2.length + 1) cap) (st.2 ++ [x]) (fun _ => False)) (hgrow : w.grownBy w9 (Value.slice A' st.2.length c').ownBlock) (hat : (Value.slice A' st.2.length c').ownBlock = some g ∨ w.heap.size ≤ g) :
    w9.heap[C.P]? = some (.cells (dlRow C (.slice A st.1.length c) (.slice A' st.2.length c')) 87 (0, 0)) ∧ DlS C (w9.setCell ⟨C.P, 9, none⟩ (.slice (some ⟨g, 0, none⟩) (st.2.length + 1) cap)) (st.1, st.2 ++ [x]) S := by
  have hP := h.hP
  have hP9 : w9.heap[C.P]? = some (.cells (dlRow C (.slice A st.1.length c) (.slice A' st.2.length c')) 87 (0, 0)) := by
    rw [hgrow.block C.P hP (fun e => h.sp e.symm)]; exact h.row
  refine ⟨hP9, ?_⟩
  have hgP : g ≠ C.P := fun e => by
    rcases hat with h2 | h2
    · rw [e] at h2; exact h.sp h2
    · omega
  have hl9 : (st.2 ++ [x]).length = st.2.length + 1 := by rw [List.length_append]; rfl
  have hT9 : Own rDir w9 C.w0.heap.size 54 (.slice A st.1.length c) st.1 S := by
    refine h.T.grown hgrow ?_ fun b hb e => (h.apart b hb).2 e.symm
    cases hk : (Value.slice A st.1.length c).ownBlock with
    | none => exact .inl rfl
    | some k => exact .inr fun e => h.ts k hk e.symm
  have hT10 : Own rDir (w9.setCell ⟨C.P, 9, none⟩ (.slice (some ⟨g, 0, none⟩) (st.2.length + 1) cap)) C.w0.heap.size 54 (.slice A st.1.length c) st.1 S :=
    hT9.grown (grown_setP _ _ _ _) (.inr h.tp) fun b hb e => (h.apart b hb).1 (Option.some.inj e)
  have hS10 : Own rStl (w9.setCell ⟨C.P, 9, none⟩ (.slice (some ⟨g, 0, none⟩) (st.2.length + 1) cap)) C.w0.heap.size 130 (.slice (some ⟨g, 0, none⟩) (st.2.length + 1) cap) (st.2 ++ [x]) (fun _ => False) :=
    hown.grown (grown_setP _ _ _ _) (.inr fun e => hgP (Option.some.inj e)) fun b hb => hb.elim
  have hB9 : Below C.w0.heap.size C.w0 w9 := h.base.grown hgrow h.base.size fun k hk => (h.S'.lt k hk).1
  refine ⟨A, c, some ⟨g, 0, none⟩, cap, ?_, hT10, by rw [hl9]; exact hS10, fun b hb => ⟨(h.apart b hb).1, fun e => ?_⟩, h.tp, fun e => hgP (Option.some.inj e), fun k hk e => ?_, hB9.setCell (p := ⟨C.P, 9, none⟩) hC.le _, h.old⟩
  · rw [hl9]
    exact heap_setP hP9 _
  · have e2 : g = b := Option.some.inj e
    rcases hat with h2 | h2
    · rw [e2] at h2; exact (h.apart b hb).2 h2
    · have := (h.T.1 b hb).1; omega
  · have e2 : g = k := Option.some.inj e
    rcases hat with h2 | h2
    · rw [e2] at h2; exact h.ts k hk h2
    · have := (h.T.lt k hk).2; omega
/-- a directory more: its own memory lies from w on -/
theorem DlP.push_dir {C : DlCtx} (hC : C.Ok) {w w1 w9 : World} {st : PlSt} {A : Option Addr} {c : Nat} {A' : Option Addr} {c' : Nat} {S : Nat → Prop} (h : DlP C w st A c A' c' S) (hw1 : Below w.heap.size w w1) {d : Dir} {g cap : Nat}
    (hown : Own rDir w9 C.w0.heap.size 54 (.slice (some ⟨g, 0, none⟩) (st.1.length + 1) cap) (st.1 ++ [d]) (fun b => S b ∨ (w.heap.size ≤ b ∧ b < w1.heap.size))) (hgrow : w1.grownBy w9 (Value.slice A st.1.length c).ownBlock) (hat : (Value.slice A st.1.length c).ownBlock = some g ∨ w1.heap.size ≤ g) :
    w9.heap[C.P]? = some (.cells (dlRow C (.slice A st.1.length c) (.slice A' st.2.length c')) 87 (0, 0)) ∧ DlWd C (w9.setCell ⟨C.P, 8, none⟩ (.slice (some ⟨g, 0, none⟩) (st.1.length + 1) cap)) (st.1 ++ [d], st.2) := by
  have hk := h.keep hw1
  have hP := hk.hP
  have hP0 := h.hP
  have hP9 : w9.heap[C.P]? = some (.cells (dlRow C (.slice A st.1.length c) (.slice A' st.2.length c')) 87 (0, 0)) := by
    rw [hgrow.block C.P hP (fun e => h.tp e.symm)]; exact hk.row
  refine ⟨hP9, ?_⟩
  have hws := hw1.size
  have hgP : g ≠ C.P := fun e => by
    rcases hat with h2 | h2
    · rw [e] at h2; exact h.tp h2
    · omega
  have hl9 : (st.1 ++ [d]).length = st.1.length + 1 := by rw [List.length_append]; rfl
  have hS9 : Own rStl w9 C.w0.heap.size 130 (.slice A' st.2.length c') st.2 (fun _ => False) := by
    refine hk.S'.grown hgrow ?_ fun b hb => hb.elim
    cases hk2 : (Value.slice A' st.2.length c').ownBlock with
    | none => exact .inl rfl
    | some k => exact .inr fun e => h.ts k e.symm hk2
  have hS10 : Own rStl (w9.setCell ⟨C.P, 8, none⟩ (.slice (some ⟨g, 0, none⟩) (st.1.length + 1) cap)) C.w0.heap.size 130 (.slice A' st.2.length c') st.2 (fun _ => False) :=
    hS9.grown (grown_setP _ _ _ _) (.inr h.sp) fun b hb => hb.elim
  have hT10 : Own rDir (w9.setCell ⟨C.P, 8, none⟩ (.slice (some ⟨g, 0, none⟩) (st.1.length + 1) cap)) C.w0.heap.size 54 (.slice (some ⟨g, 0, none⟩) (st.1.length + 1) cap) (st.1 ++ [d]) (fun b => S b ∨ (w.heap.size ≤ b ∧ b < w1.heap.size)) :=
    hown.grown (grown_setP _ _ _ _) (.inr fun e => hgP (Option.some.inj e)) fun b hb e => by
      have e2 : b = C.P := Option.some.inj e
      rcases hb with hb | hb
      · exact (h.apart b hb).1 e2
      · omega
  have hB9 : Below C.w0.heap.size C.w0 w9 := hk.base.grown hgrow hk.base.size fun k hk2 => (h.T.lt k hk2).1
  refine ⟨some ⟨g, 0, none⟩, cap, A', c', _, ?_, by rw [hl9]; exact hT10, hS10, fun b hb => ?_, fun e => hgP (Option.some.inj e), h.sp, fun k hk2 e => ?_, hB9.setCell (p := ⟨C.P, 8, none⟩) hC.le _, fun b hb => by exact Or.inl (h.old b hb)⟩
  · rw [hl9]
    exact heap_setP hP9 _
  · rcases hb with hb | hb
    · exact h.apart b hb
    · refine ⟨by omega, fun e => ?_⟩
      have := (h.S'.lt b e).2
      omega
  · have e2 : g = k := Option.some.inj hk2
    rcases hat with h2 | h2
    · rw [e2] at h2; exact h.ts k h2 e
    · have := (h.S'.lt k e).2; omega

/-- blocks that are none of a placer's own -/
def NotDl (C : DlCtx) (w : World) (b : Nat) : Prop := b ≠ C.P ∧ (∀ v, w.cell? ⟨C.P, 8, none⟩ = some v → v.ownBlock ≠ some b) ∧ (∀ v, w.cell? ⟨C.P, 9, none⟩ = some v → v.ownBlock ≠ some b)
/-- all else stands -/
def DlFr (C : DlCtx) (w w' : World) : Prop := w.heap.size ≤ w'.heap.size ∧ ∀ b, b < w.heap.size → NotDl C w b → w'.heap[b]? = w.heap[b]? ∧ NotDl C w' b
theorem DlFr.trans {C : DlCtx} {w w' w'' : World} (h : DlFr C w w') (h' : DlFr C w' w'') : DlFr C w w'' :=
  ⟨Nat.le_trans h.1 h'.1, fun b hb hn => by
    obtain ⟨h1, h2⟩ := h.2 b hb hn
    obtain ⟨h3, h4⟩ := h'.2 b (Nat.lt_of_lt_of_le hb h.1) h2
    exact ⟨h3.trans h1, h4⟩⟩
theorem DlFr.below {C : DlCtx} {w w' : World} (hP : C.P < w.heap.size) (hb : Below w.heap.size w w') : DlFr C w w' :=
  ⟨hb.size, fun b hb' hn => ⟨hb.block _ hb', hn.1, fun v hv => hn.2.1 v (by rw [← cell_same (hb.block _ hP) 8 none]; exact hv), fun v hv => hn.2.2 v (by rw [← cell_same (hb.block _ hP) 9 none]; exact hv)⟩⟩
theorem DlP.frT {C : DlCtx} {w w9 : World} {st : PlSt} {A : Option Addr} {c : Nat} {A' : Option Addr} {c' : Nat} {S : Nat → Prop} (h : DlP C w st A c A' c' S) {g n cap : Nat} (hgrow : w.grownBy w9 (Value.slice A st.1.length c).ownBlock) (hat : (Value.slice A st.1.length c).ownBlock = some g ∨ w.heap.size ≤ g)
    (hP9 : w9.heap[C.P]? = some (.cells (dlRow C (.slice A st.1.length c) (.slice A' st.2.length c')) 87 (0, 0))) : DlFr C w (w9.setCell ⟨C.P, 8, none⟩ (.slice (some ⟨g, 0, none⟩) n cap)) := by
  refine ⟨by rw [show (w9.setCell ⟨C.P, 8, none⟩ (.slice (some ⟨g, 0, none⟩) n cap)).heap.size = w9.heap.size from by simp]; exact hgrow.size, fun b hb hn => ?_⟩
  have o7 := hn.2.1 _ (cell_of_row _ _ 8 _ _ _ h.row)
  have o8 := hn.2.2 _ (cell_of_row _ _ 9 _ _ _ h.row)
  have hrow := heap_setP hP9 (o := 8) (.slice (some ⟨g, 0, none⟩) n cap)
  refine ⟨(heap_setCell_other w9 ⟨C.P, 8, none⟩ b _ hn.1).trans (hgrow.block b hb fun e => o7 e.symm), hn.1, fun v hv => ?_, fun v hv => ?_⟩
  · rw [cell_of_row _ _ 8 _ _ _ hrow] at hv
    cases hv
    intro e
    have e2 : g = b := Option.some.inj e
    rcases hat with h2 | h2
    · rw [e2] at h2; exact o7 h2
    · omega
  · rw [cell_of_row _ _ 9 _ _ _ hrow] at hv
    cases hv
    exact o8
theorem DlP.frS {C : DlCtx} {w w9 : World} {st : PlSt} {A : Option Addr} {c : Nat} {A' : Option Addr} {c' : Nat} {S : Nat → Prop} (h : DlP C w st A c A' c' S) {g n cap : Nat} (hgrow : w.grownBy w9 (Value.slice A' st.2.length c').ownBlock) (hat : (Value.slice A' st.2.length c').ownBlock = some g ∨ w.heap.size ≤ g)
    (hP9 : w9.heap[C.P]? = some (.cells (dlRow C (.slice A st.1.length c) (.slice A' st.2.length c')) 87 (0, 0))) : DlFr C w (w9.setCell ⟨C.P, 9, none⟩ (.slice (some ⟨g, 0, none⟩) n cap)) := by
  refine ⟨by rw [show (w9.setCell ⟨C.P, 9, none⟩ (.slice (some ⟨g, 0, none⟩) n cap)).heap.size = w9.heap.size from by simp]; exact hgrow.size, fun b hb hn => ?_⟩
  have o7 := hn.2.1 _ (cell_of_row _ _ 8 _ _ _ h.row)
  have o8 := hn.2.2 _ (cell_of_row _ _ 9 _ _ _ h.row)
  have hrow := heap_setP hP9 (o := 9) (.slice (some ⟨g, 0, none⟩) n cap)
  refine ⟨(heap_setCell_other w9 ⟨C.P, 9, none⟩ b _ hn.1).trans (hgrow.block b hb fun e => o8 e.symm), hn.1, fun v hv => ?_, fun v hv => ?_⟩
  · rw [cell_of_row _ _ 8 _ _ _ hrow] at hv
    cases hv
    exact o7
  · rw [cell_of_row _ _ 9 _ _ _ hrow] at hv
    cases hv
    intro e
    have e2 : g = b := Option.some.inj e
    rcases hat with h2 | h2
    · rw [e2] at h2; exact o8 h2
    · omega
theorem DlWd.keep {C : DlCtx} {w w' : World} {st : PlSt} (h : DlWd C w st) (hb : Below w.heap.size w w') : DlWd C w' st := by
  obtain ⟨A, c, A', c', S, h⟩ := h
  exact ⟨A, c, A', c', S, h.keep hb⟩
/-- what a reader of a placer sees -/
structure DlRd (C : DlCtx) (w : World) (st : PlSt) (A : Option Addr) (c : Nat) (A' : Option Addr) (c' : Nat) : Prop where
  c0 : w.cell? ⟨C.P, 0, none⟩ = some (.slice C.gA C.gn C.gc)
  c1 : w.cell? ⟨C.P, 1, none⟩ = some (.slice C.pA C.pn C.pc)
  c4 : w.cell? ⟨C.P, 4, none⟩ = some (.int .i64 C.q.dirs)
  c5 : w.cell? ⟨C.P, 5, none⟩ = some (.int .i64 C.q.path)
  c6 : w.cell? ⟨C.P, 6, none⟩ = some (.slice C.oA C.on C.oc)
  c7 : w.cell? ⟨C.P, 7, none⟩ = some (.bool C.like)
  c8 : w.cell? ⟨C.P, 8, none⟩ = some (.slice A st.1.length c)
  c9 : w.cell? ⟨C.P, 9, none⟩ = some (.slice A' st.2.length c')
  dirs : SlV rDir w (fun _ => True) st.1 (.slice A st.1.length c)
  stls : SlV rStl w (fun _ => True) st.2 (.slice A' st.2.length c')
  hP : C.P < w.heap.size
theorem DlP.rd {C : DlCtx} {w : World} {st : PlSt} {A : Option Addr} {c : Nat} {A' : Option Addr} {c' : Nat} {S : Nat → Prop} (h : DlP C w st A c A' c' S) : DlRd C w st A c A' c' :=
  have h1 : w.heap[C.P]? = some (.cells #[.slice C.gA C.gn C.gc, .slice C.pA C.pn C.pc, .int .i64 C.dec, .int .i64 C.nod, .int .i64 C.q.dirs, .int .i64 C.q.path, .slice C.oA C.on C.oc, .bool C.like, .slice A st.1.length c, .slice A' st.2.length c'] 87 (0, 0)) := h.row
  ⟨cell_of_row _ _ 0 _ _ _ h1, cell_of_row _ _ 1 _ _ _ h1, cell_of_row _ _ 4 _ _ _ h1, cell_of_row _ _ 5 _ _ _ h1, cell_of_row _ _ 6 _ _ _ h1, cell_of_row _ _ 7 _ _ _ h1, cell_of_row _ _ 8 _ _ _ h1, cell_of_row _ _ 9 _ _ _ h1, h.T.slv.more fun _ _ _ => trivial, h.S'.slv.more fun _ _ _ => trivial, h.hP⟩
theorem DlWd.read {C : DlCtx} {w : World} {st : PlSt} (h : DlWd C w st) : ∃ A c A' c', DlRd C w st A c A' c' := by
  obtain ⟨A, c, A', c', S, h⟩ := h
  exact ⟨A, c, A', c', h.rd⟩
theorem DlRd.keep {C : DlCtx} {w w' : World} {st : PlSt} {A : Option Addr} {c : Nat} {A' : Option Addr} {c' : Nat} (h : DlRd C w st A c A' c') (hb : Below w.heap.size w w') : DlRd C w' st A c A' c' :=
  ⟨below_cell hb h.c0 h.hP, below_cell hb h.c1 h.hP, below_cell hb h.c4 h.hP, below_cell hb h.c5 h.hP, below_cell hb h.c6 h.hP, below_cell hb h.c7 h.hP, below_cell hb h.c8 h.hP, below_cell hb h.c9 h.hP, h.dirs.belowSize hb, h.stls.belowSize hb, Nat.lt_of_lt_of_le h.hP hb.size⟩
theorem DlRd.dir {C : DlCtx} {w : World} {st : PlSt} {A : Option Addr} {c : Nat} {A' : Option Addr} {c' : Nat} (h : DlRd C w st A c A' c') {i : Nat} {d : Dir} (hi : st.1[i]? = some d) :
    ∃ (b o : Nat) (pA : Option Addr) (pc : Nat), A = some ⟨b, o, none⟩ ∧ b < w.heap.size ∧ w.cell? ⟨b, o + i * 9, none⟩ = some (.slice pA d.path.length pc) ∧ w.cell? ⟨b, o + i * 9 + 8, none⟩ = some (.int .i64 d.node) ∧ SlV rStr w (fun _ => True) d.path (.slice pA d.path.length pc) ∧ d.path.length ≤ pc ∧ pc ≤ maxLen := by
  obtain ⟨b, o, cs, hA, _, hb, hh, hcell⟩ := h.dirs.elem hi
  obtain ⟨s0, s1, s2, s3, rfl, hp, _, _, _, _, _, _, _, _⟩ := hh
  obtain ⟨pA, pc, rfl, h1, h2⟩ := hp.val
  have c0 := hcell 0 _ rfl
  have c8 := hcell 8 _ rfl
  simp only [rDir, Nat.add_zero] at c0 c8
  exact ⟨b, o, pA, pc, hA, hb, c0, c8, hp, h1, h2⟩
theorem DlRd.len {C : DlCtx} {w : World} {st : PlSt} {A : Option Addr} {c : Nat} {A' : Option Addr} {c' : Nat} (h : DlRd C w st A c A' c') : st.1.length ≤ 9223372036854775807 ∧ st.2.length ≤ 9223372036854775807 := by
  have h1 := h.dirs.cap_le
  have h2 := h.stls.cap_le
  obtain ⟨_, _, e1, h3, _⟩ := h.dirs.val
  obtain ⟨_, _, e2, h4, _⟩ := h.stls.val
  simp only [Value.slice.injEq] at e1 e2
  unfold maxLen at h1 h2
  omega

theorem DlRd.node {C : DlCtx} {w : World} {st : PlSt} {A : Option Addr} {c : Nat} {A' : Option Addr} {c' : Nat} (h : DlRd C w st A c A' c') (hC : C.Ok) (hb : Below C.w0.heap.size C.w0 w) {i : Nat} {n : Node} (hi : C.q.g[i]? = some n) :
    ∃ (b o : Nat) (xA : Option Addr) (xc : Nat) (eA : Option Addr) (ec : Nat), C.gA = some ⟨b, o, none⟩ ∧ b < C.w0.heap.size ∧ i < C.gn ∧ w.cell? ⟨b, o + i * 6, none⟩ = some (.string n.name) ∧ w.cell? ⟨b, o + i * 6 + 1, none⟩ = some (.int .i64 n.ver.major) ∧ w.cell? ⟨b, o + i * 6 + 2, none⟩ = some (.int .i64 n.ver.minor) ∧ w.cell? ⟨b, o + i * 6 + 3, none⟩ = some (.int .i64 n.ver.patch) ∧
      w.cell? ⟨b, o + i * 6 + 4, none⟩ = some (.slice xA n.ctx.length xc) ∧ w.cell? ⟨b, o + i * 6 + 5, none⟩ = some (.slice eA n.edges.length ec) ∧ SlV rPin w (fun b => b < C.w0.heap.size) n.ctx (.slice xA n.ctx.length xc) ∧ SlV rEdge w (fun b => b < C.w0.heap.size) n.edges (.slice eA n.edges.length ec) ∧ n.name.size ≤ maxLen := by
  have hg := hC.g.belowSize hb
  have hn := hg.n_eq
  obtain ⟨b, o, cs, hA, hS, hbl, hh, hcell⟩ := hg.elem hi
  obtain ⟨s0, s1, rfl, hnm, _, _, _, hx, he⟩ := hh
  obtain ⟨xA, xc, rfl, _, _⟩ := hx.val
  obtain ⟨eA, ec, rfl, _, _⟩ := he.val
  have c0 := hcell 0 _ rfl
  have c1 := hcell 1 _ rfl
  have c2 := hcell 2 _ rfl
  have c3 := hcell 3 _ rfl
  have c4 := hcell 4 _ rfl
  have c5 := hcell 5 _ rfl
  simp only [rNode, Nat.add_zero] at c0 c1 c2 c3 c4 c5
  exact ⟨b, o, xA, xc, eA, ec, hA, hS, by rw [hn]; exact (List.getElem?_eq_some_iff.1 hi).1, c0, c1, c2, c3, c4, c5, hx, he, hnm⟩
theorem DlRd.pack {C : DlCtx} {w : World} {st : PlSt} {A : Option Addr} {c : Nat} {A' : Option Addr} {c' : Nat} (h : DlRd C w st A c A' c') (hC : C.Ok) (hb : Below C.w0.heap.size C.w0 w) {i : Nat} {x : Pack} (hi : C.q.ps[i]? = some x) :
    ∃ (b o : Nat) (dA : Option Addr) (dc : Nat) (eA : Option Addr) (ec : Nat) (fA : Option Addr) (fc : Nat), C.pA = some ⟨b, o, none⟩ ∧ b < C.w0.heap.size ∧ i < C.pn ∧ w.cell? ⟨b, o + i * 7, none⟩ = some (.string x.name) ∧ w.cell? ⟨b, o + i * 7 + 1, none⟩ = some (.int .i64 x.ver.major) ∧ w.cell? ⟨b, o + i * 7 + 2, none⟩ = some (.int .i64 x.ver.minor) ∧ w.cell? ⟨b, o + i * 7 + 3, none⟩ = some (.int .i64 x.ver.patch) ∧
      w.cell? ⟨b, o + i * 7 + 4, none⟩ = some (.slice dA x.deps.length dc) ∧ w.cell? ⟨b, o + i * 7 + 5, none⟩ = some (.slice eA x.peers.length ec) ∧ w.cell? ⟨b, o + i * 7 + 6, none⟩ = some (.slice fA x.opts.length fc) ∧
      PackV w (fun b => b < C.w0.heap.size) x (.agg #[.string x.name, .int .i64 x.ver.major, .int .i64 x.ver.minor, .int .i64 x.ver.patch, .slice dA x.deps.length dc, .slice eA x.peers.length ec, .slice fA x.opts.length fc]) ∧ I64 x.ver.major ∧ I64 x.ver.minor ∧ I64 x.ver.patch := by
  have hg := hC.p.belowSize hb
  have hn := hg.n_eq
  obtain ⟨b, o, cs, hA, hS, hbl, hh, hcell⟩ := hg.elem hi
  obtain ⟨s0, s1, s2, rfl, hnm, i1, i2, i3, h1, h2, h3⟩ := hh
  obtain ⟨dA, dc, rfl, _, _⟩ := h1.val
  obtain ⟨eA, ec, rfl, _, _⟩ := h2.val
  obtain ⟨fA, fc, rfl, _, _⟩ := h3.val
  have c0 := hcell 0 _ rfl
  have c1 := hcell 1 _ rfl
  have c2 := hcell 2 _ rfl
  have c3 := hcell 3 _ rfl
  have c4 := hcell 4 _ rfl
  have c5 := hcell 5 _ rfl
  have c6 := hcell 6 _ rfl
  simp only [rPack, Nat.add_zero] at c0 c1 c2 c3 c4 c5 c6
  exact ⟨b, o, dA, dc, eA, ec, fA, fc, hA, hS, by rw [hn]; exact (List.getElem?_eq_some_iff.1 hi).1, c0, c1, c2, c3, c4, c5, c6, ⟨_, _, _, _, _, _, _, _, _, rfl, hnm, h1, h2, h3⟩, i1, i2, i3⟩
theorem DlP.notDl {C : DlCtx} {w : World} {st : PlSt} {A : Option Addr} {c : Nat} {A' : Option Addr} {c' : Nat} {S : Nat → Prop} (h : DlP C w st A c A' c' S) {b : Nat} (h1 : b ≠ C.P) (h2 : (Value.slice A st.1.length c).ownBlock ≠ some b) (h3 : (Value.slice A' st.2.length c').ownBlock ≠ some b) : NotDl C w b :=
  ⟨h1, fun v hv => by rw [cell_of_row _ _ 8 _ _ _ h.row] at hv; cases hv; exact h2, fun v hv => by rw [cell_of_row _ _ 9 _ _ _ h.row] at hv; cases hv; exact h3⟩
theorem DlP.notNew {C : DlCtx} {w w' : World} {st : PlSt} {A : Option Addr} {c : Nat} {A' : Option Addr} {c' : Nat} {S : Nat → Prop} (h : DlP C w st A c A' c' S) (hb : Below w.heap.size w w') {b : Nat} (h1 : w.heap.size ≤ b) : NotDl C w' b :=
  (h.keep hb).notDl (by have := h.hP; omega) (fun e => by have := (h.T.lt _ e).2; omega) (fun e => by have := (h.S'.lt _ e).2; omega)
theorem NotDl.grown {C : DlCtx} {w w' : World} {row : Option Nat} {b : Nat} (hn : NotDl C w b) (hP : C.P < w.heap.size) (hg : w.grownBy w' row) (hr : row ≠ some C.P) : NotDl C w' b :=
  ⟨hn.1, fun v hv => hn.2.1 v (by rw [← cell_same (hg.block C.P hP (fun e => hr e.symm)) 8 none]; exact hv), fun v hv => hn.2.2 v (by rw [← cell_same (hg.block C.P hP (fun e => hr e.symm)) 9 none]; exact hv)⟩
theorem DlFr.refl (C : DlCtx) (w : World) : DlFr C w w := ⟨Nat.le_refl _, fun b _ hn => ⟨rfl, hn⟩⟩
end Go.Proofs.YtminjjdnmpaaoaaGreatDoor
