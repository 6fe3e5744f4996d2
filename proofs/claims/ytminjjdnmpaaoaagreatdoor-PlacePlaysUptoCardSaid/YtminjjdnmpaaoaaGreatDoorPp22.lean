/-
  The program's placer in memory: what it holds; what was settled is looked up.
  The program's placer: a lookup settled; a directory in another one; what a directory would turn.
-/
import Derived.Test.YtminjjdnmpaaoaaGreatDoorPp21
import Derived.Test.YtminjjdnmpaaoaaGreatDoorPp04
import Derived.Test.YtminjjdnmpaaoaaGreatDoorPp06
import Derived.Test.YtminjjdnmpaaoaaGreatDoorPp17
import Derived.WalkKit
import Derived.WalkSpells
import Derived.IntWalk
import Derived.Lib.Hide
import Derived.Test.YtminjjdnmpaaoaaGreatDoorPp18
set_option autoImplicit false
set_option relaxedAutoImplicit false
set_option linter.unusedVariables false
set_option linter.unusedSimpArgs false
namespace Go.Proofs.YtminjjdnmpaaoaaGreatDoor
open Go.Rows Go.RowKit Go.Shelf Go.Sort

def rStl : Rp Stl where
  size := 3
  holds := fun w S x cs => cs = [.int .i64 (x.frm : Int), .string x.label, .int .i64 (x.dst : Int)] ∧ x.label.size ≤ maxLen ∧ x.frm ≤ 1000000 ∧ x.dst ≤ 1000000
  len := fun ⟨h, _⟩ => by rw [h]; rfl
  one := fun ⟨h, _⟩ => by rw [h]; simp [Value.oneCell']
  mono := fun ⟨h, c0⟩ hk => ⟨h, c0⟩

/-- what a placer is given -/
structure PlCtx where
  w0 : World
  P : Nat
  gA : Option Addr
  gn : Nat
  gc : Nat
  pA : Option Addr
  pn : Nat
  pc : Nat
  dec : Int
  nod : Int
  ov : Value
  q : PlIn
/-- the old tree behind a pointer -/
def OldV (w : World) (S : Nat → Prop) (ov : Value) (old : Option (List Dir)) : Prop :=
  (old = none ∧ ov = .pointer none) ∨ ∃ (b o : Nat) (A : Option Addr) (n c : Nat) (l : List Dir), old = some l ∧ ov = .pointer (some ⟨b, o, none⟩) ∧ b < w.heap.size ∧ S b ∧ w.cell? ⟨b, o, none⟩ = some (.slice A n c) ∧ SlV rDir w S l (.slice A n c) ∧ (∀ d ∈ l, d.path.length * 32 ≤ 140737488355328)
theorem OldV.keep {w w' : World} {S : Nat → Prop} {ov : Value} {old : Option (List Dir)} (h : OldV w S ov old) (hb : Below w.heap.size w w') : OldV w' S ov old := by
  rcases h with h | ⟨b, o, A, n, c, l, h1, h2, h3, h4, h5, h6, h7⟩
  · exact .inl h
  · exact .inr ⟨b, o, A, n, c, l, h1, h2, Nat.lt_of_lt_of_le h3 hb.size, h4, below_cell hb h5 h3, h6.belowSize hb, h7⟩
structure PlCtx.Ok (C : PlCtx) : Prop where
  tab : Tab C.w0
  g : SlV rNode C.w0 (fun b => b < C.w0.heap.size) C.q.g (.slice C.gA C.gn C.gc)
  p : SlV rPack C.w0 (fun b => b < C.w0.heap.size) C.q.ps (.slice C.pA C.pn C.pc)
  o : OldV C.w0 (fun b => b < C.w0.heap.size) C.ov C.q.old
  le : C.w0.heap.size ≤ C.P
  dirs : I64 C.q.dirs
  path : I64 C.q.path
  gz : C.q.g.length ≤ 1048576
  pz : C.q.ps.length ≤ 1048576
/-- a placer in memory, so far -/
def PlWd (C : PlCtx) (w : World) (st : PlSt) : Prop :=
  ∃ (A : Option Addr) (c : Nat) (A' : Option Addr) (c' : Nat) (S : Nat → Prop),
    w.heap[C.P]? = some (.cells #[.slice C.gA C.gn C.gc, .slice C.pA C.pn C.pc, .int .i64 C.dec, .int .i64 C.nod, .int .i64 C.q.dirs, .int .i64 C.q.path, C.ov, .slice A st.1.length c, .slice A' st.2.length c'] 78 (0, 0)) ∧
    Own rDir w C.w0.heap.size 54 (.slice A st.1.length c) st.1 S ∧ Own rStl w C.w0.heap.size 148 (.slice A' st.2.length c') st.2 (fun _ => False) ∧
    (∀ b, S b → b ≠ C.P ∧ (Value.slice A' st.2.length c').ownBlock ≠ some b) ∧ (Value.slice A st.1.length c).ownBlock ≠ some C.P ∧ (Value.slice A' st.2.length c').ownBlock ≠ some C.P ∧
    (∀ k, (Value.slice A st.1.length c).ownBlock = some k → (Value.slice A' st.2.length c').ownBlock ≠ some k) ∧ Below C.w0.heap.size C.w0 w ∧ ∀ b, S b → C.w0.heap.size ≤ b
theorem PlWd.keep {C : PlCtx} {w w' : World} {st : PlSt} (hC : C.Ok) (h : PlWd C w st) (hb : Below w.heap.size w w') : PlWd C w' st := by
  obtain ⟨A, c, A', c', S, h1, h2, h3, h4, h5, h6, h7, h8⟩ := h
  have hP : C.P < w.heap.size := (Array.getElem?_eq_some_iff.1 h1).1
  exact ⟨A, c, A', c', S, (hb.block _ hP).trans h1, h2.keep hb, h3.keep hb, h4, h5, h6, h7, bot h8.1 hb, h8.2⟩
theorem PlWd.base {C : PlCtx} {w : World} {st : PlSt} (h : PlWd C w st) : Below C.w0.heap.size C.w0 w := by
  obtain ⟨A, c, A', c', S, h1, h2, h3, h4, h5, h6, h7, h8⟩ := h
  exact h8.1
theorem PlWd.packs {C : PlCtx} {w : World} {st : PlSt} (hC : C.Ok) (h : PlWd C w st) : SlV rPack w (fun b => b < C.w0.heap.size) C.q.ps (.slice C.pA C.pn C.pc) := hC.p.belowSize h.base
/-- what a reader of a placer sees -/
structure PlRd (C : PlCtx) (w : World) (st : PlSt) (A : Option Addr) (c : Nat) (A' : Option Addr) (c' : Nat) : Prop where
  c0 : w.cell? ⟨C.P, 0, none⟩ = some (.slice C.gA C.gn C.gc)
  c1 : w.cell? ⟨C.P, 1, none⟩ = some (.slice C.pA C.pn C.pc)
  c2 : w.cell? ⟨C.P, 2, none⟩ = some (.int .i64 C.dec)
  c3 : w.cell? ⟨C.P, 3, none⟩ = some (.int .i64 C.nod)
  c4 : w.cell? ⟨C.P, 4, none⟩ = some (.int .i64 C.q.dirs)
  c5 : w.cell? ⟨C.P, 5, none⟩ = some (.int .i64 C.q.path)
  c6 : w.cell? ⟨C.P, 6, none⟩ = some C.ov
  c7 : w.cell? ⟨C.P, 7, none⟩ = some (.slice A st.1.length c)
  c8 : w.cell? ⟨C.P, 8, none⟩ = some (.slice A' st.2.length c')
  dirs : SlV rDir w (fun _ => True) st.1 (.slice A st.1.length c)
  stls : SlV rStl w (fun _ => True) st.2 (.slice A' st.2.length c')
  hP : C.P < w.heap.size
theorem PlWd.read {C : PlCtx} {w : World} {st : PlSt} (h : PlWd C w st) : ∃ A c A' c', PlRd C w st A c A' c' := by
  obtain ⟨A, c, A', c', S, h1, h2, h3, h4, h5, h6, h7, h8⟩ := h
  exact ⟨A, c, A', c', cell_of_row _ _ 0 _ _ _ h1, cell_of_row _ _ 1 _ _ _ h1, cell_of_row _ _ 2 _ _ _ h1, cell_of_row _ _ 3 _ _ _ h1, cell_of_row _ _ 4 _ _ _ h1, cell_of_row _ _ 5 _ _ _ h1, cell_of_row _ _ 6 _ _ _ h1, cell_of_row _ _ 7 _ _ _ h1, cell_of_row _ _ 8 _ _ _ h1, h2.slv.more fun _ _ _ => trivial, h3.slv.more fun _ _ _ => trivial, (Array.getElem?_eq_some_iff.1 h1).1⟩
theorem PlRd.keep {C : PlCtx} {w w' : World} {st : PlSt} {A : Option Addr} {c : Nat} {A' : Option Addr} {c' : Nat} (h : PlRd C w st A c A' c') (hb : Below w.heap.size w w') : PlRd C w' st A c A' c' :=
  ⟨below_cell hb h.c0 h.hP, below_cell hb h.c1 h.hP, below_cell hb h.c2 h.hP, below_cell hb h.c3 h.hP, below_cell hb h.c4 h.hP, below_cell hb h.c5 h.hP, below_cell hb h.c6 h.hP, below_cell hb h.c7 h.hP, below_cell hb h.c8 h.hP, h.dirs.belowSize hb, h.stls.belowSize hb, Nat.lt_of_lt_of_le h.hP hb.size⟩

theorem foundS_step {S : List Stl} {k : Nat} {x : Stl} (h : S[k]? = some x) (i : Nat) (s : ByteArray) : foundS (S.drop k) i s = if x.frm = i ∧ x.label = s then (x.dst : Int) else foundS (S.drop (k + 1)) i s := by
  obtain ⟨hk, e⟩ := List.getElem?_eq_some_iff.1 h
  rw [List.drop_eq_getElem_cons hk, e, foundS]

set_option maxHeartbeats 3200000 in
set_option maxRecDepth 100000 in
theorem found_any (C : PlCtx) (w : World) (st : PlSt) (hw : PlWd C w st) (i : Nat) (hi : i ≤ 1000000) (s : ByteArray) :
    Calls Tryz.prog 128 #[.pointer (some ⟨C.P, 0, none⟩), .int .i64 (i : Int), .string s] w fun e w' => e = .returned (.int .i64 (foundS st.2 i s)) ∧ Below w.heap.size w w' := by
  obtain ⟨A, c, A', c', hr⟩ := hw.read
  have x8 := hr.c8
  have hst := Lib.hid hr.stls
  have hcm := hr.stls.cap_le
  unfold maxLen at hcm
  have HR : Hid (foundS st.2 i s = foundS (st.2.drop 0) i s) := by unfold Hid; rw [List.drop_zero]
  have Hend : Hid (∀ k, st.2.length ≤ k → foundS (st.2.drop k) i s = -1) := fun k hk => by rw [List.drop_eq_nil_of_le hk]; rfl
  have hcn := hr.stls.n_eq
  clear hr hw
  obtain ⟨n, hn⟩ : ∃ n, n = st.2.length := ⟨_, rfl⟩
  rw [← hn] at x8 hst Hend hcm
  have hn63 : n ≤ 9223372036854775807 := by
    obtain ⟨_, _, h1, h2, h3⟩ := hst.out.val
    simp only [Value.slice.injEq] at h1
    omega
  have Hn := Lib.hid hn
  clear hn hcn hcm
  generalize st.2 = SS at *
  generalize foundS SS i s = R at *
  generalize C.P = PB at *
  go_enter Tryz.func128, Tryz.ntmps128
  go_wp2_with fail
  go_loopw [14] (fun t wr => ∃ k : Nat, k ≤ n ∧ t = .int .i64 k ∧ Hid (R = foundS (SS.drop k) i s) ∧ Hid (Below w.heap.size w wr)) (fun t _ => n - (intOf t).toNat)
  case atStart => exact ⟨0, Nat.zero_le _, rfl, HR, Below.refl _ _⟩
  case round =>
    clear HR x8
    obtain ⟨k, hk, rfl, heq, hbel⟩ := hrel
    have hk0 : (0 : Int) ≤ (k : Int) := by omega
    by_cases hlt : k < n
    case neg =>
      have He : Hid (R = -1) := by unfold Hid; rw [heq.out, Hend.out k (by omega)]
      have hI : ¬ (k : Int) < (n : Int) := by omega
      clear heq Hend
      go_wp2_with fail
      go_ret
      exact ⟨ret_int He.out.symm, hbel.out⟩
    have hkn : (k : Int) < (n : Int) := by omega
    obtain ⟨x, hx⟩ : ∃ x, SS[k]? = some x := ⟨_, List.getElem?_eq_getElem (by have := Hn.out; omega)⟩
    obtain ⟨b, o, cs, hA, _, hb1, ⟨rfl, hlz, hf, hd⟩, hcell⟩ := (hst.out.belowSize hbel.out).elem hx
    subst hA
    have c0 := hcell 0 _ rfl
    have c1 := hcell 1 _ rfl
    have c2 := hcell 2 _ rfl
    simp only [rStl, Nat.add_zero] at c0 c1 c2
    have Hstep := Lib.hid (foundS_step hx i s)
    clear hcell hlz
    obtain ⟨xf, xl, xd⟩ := x
    simp only at c0 c1 c2 hf hd Hstep
    have HBa : Hid (∀ o : Obj, Below w.heap.size w (wr.alloc o)) := fun o => bal hbel.out o
    by_cases h1 : xf = i
    · have hb1 : ((xf : Int) == (i : Int)) = true := by simp [h1]
      by_cases h2 : xl = s
      · have hb2 := beq_true h2
        have He : Hid (R = (xd : Int)) := by unfold Hid; rw [heq.out, Hstep.out, if_pos ⟨h1, h2⟩]
        clear heq Hstep h1 h2 Hend
        go_wp2_with fail
        go_ret
        exact ⟨ret_int He.out.symm, HBa.out _⟩
      · have hb2 := beq_false h2
        have He : Hid (R = foundS (SS.drop (k + 1)) i s) := by unfold Hid; rw [heq.out, Hstep.out, if_neg (fun h => h2 h.2)]
        clear heq Hstep h1 h2
        go_wp2_with fail
        go_roundw
        case rel => exact ⟨k + 1, by omega, by go_num, He, HBa.out _⟩
        case measure => simp [intOf]; omega
    · have hb1 : ((xf : Int) == (i : Int)) = false := by simp; omega
      have He : Hid (R = foundS (SS.drop (k + 1)) i s) := by unfold Hid; rw [heq.out, Hstep.out, if_neg (fun h => h1 h.1)]
      clear heq Hstep h1
      go_wp2_with fail
      go_roundw
      case rel => exact ⟨k + 1, by omega, by go_num, He, HBa.out _⟩
      case measure => simp [intOf]; omega
end Go.Proofs.YtminjjdnmpaaoaaGreatDoor
set_option autoImplicit false
set_option relaxedAutoImplicit false
set_option linter.unusedVariables false
set_option linter.unusedSimpArgs false
namespace Go.Proofs.YtminjjdnmpaaoaaGreatDoor
open Go.Rows Go.RowKit Go.Shelf Go.Sort

theorem grown_setP (W : World) (b o : Nat) (v : Value) : W.grownBy (W.setCell ⟨b, o, none⟩ v) (some b) := ⟨rfl, rfl, rfl, by simp, fun i _ hk => heap_setCell_other W ⟨b, o, none⟩ i _ (fun e => hk (by simp [e]))⟩
theorem heap_setP {W : World} {b o : Nat} {cs : Array Value} {t : TypeId} (h : W.heap[b]? = some (.cells cs t (0, 0))) (v : Value) : (W.setCell ⟨b, o, none⟩ v).heap[b]? = some (.cells (cs.setIfInBounds o v) t (0, 0)) := by
  obtain ⟨hlt, hk⟩ := Array.getElem?_eq_some_iff.1 h
  show (W.heap.modify b _)[b]? = _
  rw [Array.getElem?_eq_getElem (by rw [Array.size_modify]; exact hlt), Array.getElem_modify_self, hk]
  rfl
theorem elt_stl : Elt Tryz.prog 148 3 32 := Elt.mk' (z := .agg #[.int .i64 0, .string ⟨#[]⟩, .int .i64 0]) (by kernel_rfl) rfl (by decide)
theorem elt_dirP : Elt Tryz.prog 54 9 144 := Elt.mk' (z := .agg #[.slice none 0 0, .string ⟨#[]⟩, .int .i64 0, .int .i64 0, .int .i64 0, .slice none 0 0, .slice none 0 0, .slice none 0 0, .int .i64 0]) (by kernel_rfl) rfl (by decide)
theorem frozen_row {W : World} {b o : Nat} {cs : Array Value} {t : TypeId} (h : W.heap[b]? = some (.cells cs t (0, 0))) : W.frozen? ⟨b, o, none⟩ = false := by simp [World.frozen?, h]

/-- the placer's row -/
def plRow (C : PlCtx) (vT vS : Value) : Array Value := #[.slice C.gA C.gn C.gc, .slice C.pA C.pn C.pc, .int .i64 C.dec, .int .i64 C.nod, .int .i64 C.q.dirs, .int .i64 C.q.path, C.ov, vT, vS]
/-- the parts of a placer in memory -/
structure PlP (C : PlCtx) (w : World) (st : PlSt) (A : Option Addr) (c : Nat) (A' : Option Addr) (c' : Nat) (S : Nat → Prop) : Prop where
  row : w.heap[C.P]? = some (.cells (plRow C (.slice A st.1.length c) (.slice A' st.2.length c')) 78 (0, 0))
  T : Own rDir w C.w0.heap.size 54 (.slice A st.1.length c) st.1 S
  S' : Own rStl w C.w0.heap.size 148 (.slice A' st.2.length c') st.2 (fun _ => False)
  apart : ∀ b, S b → b ≠ C.P ∧ (Value.slice A' st.2.length c').ownBlock ≠ some b
  tp : (Value.slice A st.1.length c).ownBlock ≠ some C.P
  sp : (Value.slice A' st.2.length c').ownBlock ≠ some C.P
  ts : ∀ k, (Value.slice A st.1.length c).ownBlock = some k → (Value.slice A' st.2.length c').ownBlock ≠ some k
  base : Below C.w0.heap.size C.w0 w
  new : ∀ b, S b → C.w0.heap.size ≤ b
theorem PlWd.parts {C : PlCtx} {w : World} {st : PlSt} (h : PlWd C w st) : ∃ A c A' c' S, PlP C w st A c A' c' S := by
  obtain ⟨A, c, A', c', S, h1, h2, h3, h4, h5, h6, h7, h8⟩ := h
  exact ⟨A, c, A', c', S, h1, h2, h3, h4, h5, h6, h7, h8.1, h8.2⟩
theorem PlP.all {C : PlCtx} {w : World} {st : PlSt} {A : Option Addr} {c : Nat} {A' : Option Addr} {c' : Nat} {S : Nat → Prop} (h : PlP C w st A c A' c' S) : PlWd C w st := ⟨A, c, A', c', S, h.row, h.T, h.S', h.apart, h.tp, h.sp, h.ts, h.base, h.new⟩
theorem PlP.hP {C : PlCtx} {w : World} {st : PlSt} {A : Option Addr} {c : Nat} {A' : Option Addr} {c' : Nat} {S : Nat → Prop} (h : PlP C w st A c A' c' S) : C.P < w.heap.size := (Array.getElem?_eq_some_iff.1 h.row).1
theorem PlP.keep {C : PlCtx} {w w' : World} {st : PlSt} {A : Option Addr} {c : Nat} {A' : Option Addr} {c' : Nat} {S : Nat → Prop} (h : PlP C w st A c A' c' S) (hb : Below w.heap.size w w') : PlP C w' st A c A' c' S :=
  ⟨(hb.block _ h.hP).trans h.row, h.T.keep hb, h.S'.keep hb, h.apart, h.tp, h.sp, h.ts, bot h.base hb, h.new⟩
/-- a placer whose directories' own memory lies in S -/
def PlS (C : PlCtx) (w : World) (st : PlSt) (S : Nat → Prop) : Prop := ∃ A c A' c', PlP C w st A c A' c' S
theorem PlS.all {C : PlCtx} {w : World} {st : PlSt} {S : Nat → Prop} (h : PlS C w st S) : PlWd C w st := by
  obtain ⟨A, c, A', c', h⟩ := h
  exact h.all
theorem PlWd.s {C : PlCtx} {w : World} {st : PlSt} (h : PlWd C w st) : ∃ S, PlS C w st S := by
  obtain ⟨A, c, A', c', S, h⟩ := h.parts
  exact ⟨S, A, c, A', c', h⟩
theorem PlS.keep {C : PlCtx} {w w' : World} {st : PlSt} {S : Nat → Prop} (h : PlS C w st S) (hb : Below w.heap.size w w') : PlS C w' st S := by
  obtain ⟨A, c, A', c', h⟩ := h
  exact ⟨A, c, A', c', h.keep hb⟩
/-- a lookup more -/
theorem PlP.push_stl {C : PlCtx} (hC : C.Ok) {w w9 : World} {st : PlSt} {A : Option Addr} {c : Nat} {A' : Option Addr} {c' : Nat} {S : Nat → Prop} (h : PlP C w st A c A' c' S) {x : Stl} {g cap : Nat}
    (hown : Own rStl w9 C.w0.heap.size 148 (.slice (some ⟨g, 0, none⟩) (st.2.length + 1) cap) (st.2 ++ [x]) (fun _ => False)) (hgrow : w.grownBy w9 (Value.slice A' st.2.length c').ownBlock) (hat : (Value.slice A' st.2.length c').ownBlock = some g ∨ w.heap.size ≤ g) :
    w9.heap[C.P]? = some (.cells (plRow C (.slice A st.1.length c) (.slice A' st.2.length c')) 78 (0, 0)) ∧ PlS C (w9.setCell ⟨C.P, 8, none⟩ (.slice (some ⟨g, 0, none⟩) (st.2.length + 1) cap)) (st.1, st.2 ++ [x]) S := by
  have hP := h.hP
  have hP9 : w9.heap[C.P]? = some (.cells (plRow C (.slice A st.1.length c) (.slice A' st.2.length c')) 78 (0, 0)) := by
    rw [hgrow.block C.P hP (fun e => h.sp e.symm)]; exact h.row
  refine ⟨hP9, ?_⟩
  have hgP : g ≠ C.P := fun e => by
    rcases hat with h2 | h2
    · rw [e] at h2; exact h.sp h2
    · omega
  have hl9 : (st.2 ++ [x]).length = st.2.length + 1 := by rw [List.length_append]; rfl
  have hT9 : Own rDir w9 C.w0.heap.size 54 (.slice A st.1.length c) st.1 S := by
    refine h.T.grown hgrow ?_ fun b hb e => (h.apart b hb).2 e.symm
    cases hk : (Value.slice A st.1.length c).ownBlock with
    | none => exact .inl rfl
    | some k => exact .inr fun e => h.ts k hk e.symm
  have hT10 : Own rDir (w9.setCell ⟨C.P, 8, none⟩ (.slice (some ⟨g, 0, none⟩) (st.2.length + 1) cap)) C.w0.heap.size 54 (.slice A st.1.length c) st.1 S :=
    hT9.grown (grown_setP _ _ _ _) (.inr h.tp) fun b hb e => (h.apart b hb).1 (Option.some.inj e)
  have hS10 : Own rStl (w9.setCell ⟨C.P, 8, none⟩ (.slice (some ⟨g, 0, none⟩) (st.2.length + 1) cap)) C.w0.heap.size 148 (.slice (some ⟨g, 0, none⟩) (st.2.length + 1) cap) (st.2 ++ [x]) (fun _ => False) :=
    hown.grown (grown_setP _ _ _ _) (.inr fun e => hgP (Option.some.inj e)) fun b hb => hb.elim
  have hB9 : Below C.w0.heap.size C.w0 w9 := h.base.grown hgrow h.base.size fun k hk => (h.S'.lt k hk).1
  refine ⟨A, c, some ⟨g, 0, none⟩, cap, ?_, hT10, by rw [hl9]; exact hS10, fun b hb => ⟨(h.apart b hb).1, fun e => ?_⟩, h.tp, fun e => hgP (Option.some.inj e), fun k hk e => ?_, hB9.setCell (p := ⟨C.P, 8, none⟩) hC.le _, h.new⟩
  · rw [hl9]
    exact heap_setP hP9 _
  · have e2 : g = b := Option.some.inj e
    rcases hat with h2 | h2
    · rw [e2] at h2; exact (h.apart b hb).2 h2
    · have := (h.T.1 b hb).1; omega
  · have e2 : g = k := Option.some.inj e
    rcases hat with h2 | h2
    · rw [e2] at h2; exact h.ts k hk h2
    · have := (h.T.lt k hk).2; omega
/-- a directory more: its own memory lies from w on -/
theorem PlP.push_dir {C : PlCtx} (hC : C.Ok) {w w1 w9 : World} {st : PlSt} {A : Option Addr} {c : Nat} {A' : Option Addr} {c' : Nat} {S : Nat → Prop} (h : PlP C w st A c A' c' S) (hw1 : Below w.heap.size w w1) {d : Dir} {g cap : Nat}
    (hown : Own rDir w9 C.w0.heap.size 54 (.slice (some ⟨g, 0, none⟩) (st.1.length + 1) cap) (st.1 ++ [d]) (fun b => S b ∨ (w.heap.size ≤ b ∧ b < w1.heap.size))) (hgrow : w1.grownBy w9 (Value.slice A st.1.length c).ownBlock) (hat : (Value.slice A st.1.length c).ownBlock = some g ∨ w1.heap.size ≤ g) :
    w9.heap[C.P]? = some (.cells (plRow C (.slice A st.1.length c) (.slice A' st.2.length c')) 78 (0, 0)) ∧ PlWd C (w9.setCell ⟨C.P, 7, none⟩ (.slice (some ⟨g, 0, none⟩) (st.1.length + 1) cap)) (st.1 ++ [d], st.2) := by
  have hk := h.keep hw1
  have hP := hk.hP
  have hP0 := h.hP
  have hP9 : w9.heap[C.P]? = some (.cells (plRow C (.slice A st.1.length c) (.slice A' st.2.length c')) 78 (0, 0)) := by
    rw [hgrow.block C.P hP (fun e => h.tp e.symm)]; exact hk.row
  refine ⟨hP9, ?_⟩
  have hws := hw1.size
  have hgP : g ≠ C.P := fun e => by
    rcases hat with h2 | h2
    · rw [e] at h2; exact h.tp h2
    · omega
  have hl9 : (st.1 ++ [d]).length = st.1.length + 1 := by rw [List.length_append]; rfl
  have hS9 : Own rStl w9 C.w0.heap.size 148 (.slice A' st.2.length c') st.2 (fun _ => False) := by
    refine hk.S'.grown hgrow ?_ fun b hb => hb.elim
    cases hk2 : (Value.slice A' st.2.length c').ownBlock with
    | none => exact .inl rfl
    | some k => exact .inr fun e => h.ts k e.symm hk2
  have hS10 : Own rStl (w9.setCell ⟨C.P, 7, none⟩ (.slice (some ⟨g, 0, none⟩) (st.1.length + 1) cap)) C.w0.heap.size 148 (.slice A' st.2.length c') st.2 (fun _ => False) :=
    hS9.grown (grown_setP _ _ _ _) (.inr h.sp) fun b hb => hb.elim
  have hT10 : Own rDir (w9.setCell ⟨C.P, 7, none⟩ (.slice (some ⟨g, 0, none⟩) (st.1.length + 1) cap)) C.w0.heap.size 54 (.slice (some ⟨g, 0, none⟩) (st.1.length + 1) cap) (st.1 ++ [d]) (fun b => S b ∨ (w.heap.size ≤ b ∧ b < w1.heap.size)) :=
    hown.grown (grown_setP _ _ _ _) (.inr fun e => hgP (Option.some.inj e)) fun b hb e => by
      have e2 : b = C.P := Option.some.inj e
      rcases hb with hb | hb
      · exact (h.apart b hb).1 e2
      · omega
  have hB9 : Below C.w0.heap.size C.w0 w9 := hk.base.grown hgrow hk.base.size fun k hk2 => (h.T.lt k hk2).1
  refine ⟨some ⟨g, 0, none⟩, cap, A', c', _, ?_, by rw [hl9]; exact hT10, hS10, fun b hb => ?_, fun e => hgP (Option.some.inj e), h.sp, fun k hk2 e => ?_, hB9.setCell (p := ⟨C.P, 7, none⟩) hC.le _, fun b hb => by
    rcases hb with hb | hb
    · exact h.new b hb
    · exact Nat.le_trans h.base.size hb.1⟩
  · rw [hl9]
    exact heap_setP hP9 _
  · rcases hb with hb | hb
    · exact h.apart b hb
    · refine ⟨by omega, fun e => ?_⟩
      have := (h.S'.lt b e).2
      omega
  · have e2 : g = k := Option.some.inj hk2
    rcases hat with h2 | h2
    · rw [e2] at h2; exact h.ts k h2 e
    · have := (h.S'.lt k e).2; omega

/-- blocks that are none of a placer's own -/
def NotPl (C : PlCtx) (w : World) (b : Nat) : Prop := b ≠ C.P ∧ (∀ v, w.cell? ⟨C.P, 7, none⟩ = some v → v.ownBlock ≠ some b) ∧ (∀ v, w.cell? ⟨C.P, 8, none⟩ = some v → v.ownBlock ≠ some b)
/-- all else stands -/
def PlFr (C : PlCtx) (w w' : World) : Prop := w.heap.size ≤ w'.heap.size ∧ ∀ b, b < w.heap.size → NotPl C w b → w'.heap[b]? = w.heap[b]? ∧ NotPl C w' b
theorem PlFr.trans {C : PlCtx} {w w' w'' : World} (h : PlFr C w w') (h' : PlFr C w' w'') : PlFr C w w'' :=
  ⟨Nat.le_trans h.1 h'.1, fun b hb hn => by
    obtain ⟨h1, h2⟩ := h.2 b hb hn
    obtain ⟨h3, h4⟩ := h'.2 b (Nat.lt_of_lt_of_le hb h.1) h2
    exact ⟨h3.trans h1, h4⟩⟩
theorem PlFr.below {C : PlCtx} {w w' : World} (hP : C.P < w.heap.size) (hb : Below w.heap.size w w') : PlFr C w w' :=
  ⟨hb.size, fun b hb' hn => ⟨hb.block _ hb', hn.1, fun v hv => hn.2.1 v (by rw [← cell_same (hb.block _ hP) 7 none]; exact hv), fun v hv => hn.2.2 v (by rw [← cell_same (hb.block _ hP) 8 none]; exact hv)⟩⟩
theorem PlP.fr7 {C : PlCtx} {w w9 : World} {st : PlSt} {A : Option Addr} {c : Nat} {A' : Option Addr} {c' : Nat} {S : Nat → Prop} (h : PlP C w st A c A' c' S) {g n cap : Nat} (hgrow : w.grownBy w9 (Value.slice A st.1.length c).ownBlock) (hat : (Value.slice A st.1.length c).ownBlock = some g ∨ w.heap.size ≤ g)
    (hP9 : w9.heap[C.P]? = some (.cells (plRow C (.slice A st.1.length c) (.slice A' st.2.length c')) 78 (0, 0))) : PlFr C w (w9.setCell ⟨C.P, 7, none⟩ (.slice (some ⟨g, 0, none⟩) n cap)) := by
  refine ⟨by rw [show (w9.setCell ⟨C.P, 7, none⟩ (.slice (some ⟨g, 0, none⟩) n cap)).heap.size = w9.heap.size from by simp]; exact hgrow.size, fun b hb hn => ?_⟩
  have o7 := hn.2.1 _ (cell_of_row _ _ 7 _ _ _ h.row)
  have o8 := hn.2.2 _ (cell_of_row _ _ 8 _ _ _ h.row)
  have hrow := heap_setP hP9 (o := 7) (.slice (some ⟨g, 0, none⟩) n cap)
  refine ⟨(heap_setCell_other w9 ⟨C.P, 7, none⟩ b _ hn.1).trans (hgrow.block b hb fun e => o7 e.symm), hn.1, fun v hv => ?_, fun v hv => ?_⟩
  · rw [cell_of_row _ _ 7 _ _ _ hrow] at hv
    cases hv
    intro e
    have e2 : g = b := Option.some.inj e
    rcases hat with h2 | h2
    · rw [e2] at h2; exact o7 h2
    · omega
  · rw [cell_of_row _ _ 8 _ _ _ hrow] at hv
    cases hv
    exact o8
theorem PlP.fr8 {C : PlCtx} {w w9 : World} {st : PlSt} {A : Option Addr} {c : Nat} {A' : Option Addr} {c' : Nat} {S : Nat → Prop} (h : PlP C w st A c A' c' S) {g n cap : Nat} (hgrow : w.grownBy w9 (Value.slice A' st.2.length c').ownBlock) (hat : (Value.slice A' st.2.length c').ownBlock = some g ∨ w.heap.size ≤ g)
    (hP9 : w9.heap[C.P]? = some (.cells (plRow C (.slice A st.1.length c) (.slice A' st.2.length c')) 78 (0, 0))) : PlFr C w (w9.setCell ⟨C.P, 8, none⟩ (.slice (some ⟨g, 0, none⟩) n cap)) := by
  refine ⟨by rw [show (w9.setCell ⟨C.P, 8, none⟩ (.slice (some ⟨g, 0, none⟩) n cap)).heap.size = w9.heap.size from by simp]; exact hgrow.size, fun b hb hn => ?_⟩
  have o7 := hn.2.1 _ (cell_of_row _ _ 7 _ _ _ h.row)
  have o8 := hn.2.2 _ (cell_of_row _ _ 8 _ _ _ h.row)
  have hrow := heap_setP hP9 (o := 8) (.slice (some ⟨g, 0, none⟩) n cap)
  refine ⟨(heap_setCell_other w9 ⟨C.P, 8, none⟩ b _ hn.1).trans (hgrow.block b hb fun e => o8 e.symm), hn.1, fun v hv => ?_, fun v hv => ?_⟩
  · rw [cell_of_row _ _ 7 _ _ _ hrow] at hv
    cases hv
    exact o7
  · rw [cell_of_row _ _ 8 _ _ _ hrow] at hv
    cases hv
    intro e
    have e2 : g = b := Option.some.inj e
    rcases hat with h2 | h2
    · rw [e2] at h2; exact o8 h2
    · omega

set_option maxHeartbeats 1600000 in
set_option maxRecDepth 100000 in
theorem settleS_any (C : PlCtx) (hC : C.Ok) (w : World) (st : PlSt) (S : Nat → Prop) (hw : PlS C w st S) (i j : Nat) (hi : i ≤ 1000000) (hj : j ≤ 1000000) (s : ByteArray) (hs : s.size ≤ maxLen) (hlen : st.2.length ≤ 1000000) :
    Calls Tryz.prog 49 #[.pointer (some ⟨C.P, 0, none⟩), .int .i64 (i : Int), .string s, .int .i64 (j : Int)] w fun e w' => e = .returned (.tuple #[]) ∧ PlS C w' (st.1, st.2 ++ [⟨i, s, j⟩]) S ∧ PlFr C w w' := by
  obtain ⟨A, c, A', c', hp⟩ := hw
  have x8 : w.cell? ⟨C.P, 8, none⟩ = some (.slice A' st.2.length c') := cell_of_row _ _ 8 _ _ _ hp.row
  obtain ⟨w1, hw1⟩ : ∃ w1, w1 = w.alloc (.cells #[.int .i64 (i : Int), .string s, .int .i64 (j : Int)] 148) := ⟨_, rfl⟩
  have hp1 : PlP C w1 st A c A' c' S := hp.keep (by rw [hw1]; exact bal (Below.refl _ _) _)
  have hnews := news_of w #[.int .i64 (i : Int), .string s, .int .i64 (j : Int)] 148
  have hs1 : w1.heap.size = w.heap.size + 1 := by rw [hw1]; simp
  have H1 := Lib.hid hp1
  have HC := Lib.hid hC
  have hb0 : C.w0.heap.size ≤ w1.heap.size := hp1.base.size
  rw [← hw1] at hnews
  have Hs1 := Lib.hid hs1
  have Hnews := Lib.hid hnews
  have HPz := Lib.hid hp.hP
  have HBl := Lib.hid (show Below w.heap.size w w1 by rw [hw1]; exact bal (Below.refl _ _) _)
  obtain ⟨n, hn⟩ : ∃ n, n = st.2.length := ⟨_, rfl⟩
  have Hn := Lib.hid hn
  have hnz : n ≤ 1000000 := by omega
  rw [← hn] at x8
  clear hn hp hp1 hs1 hnews
  go_enter Tryz.func49, Tryz.ntmps49
  go_wp2_with (at_builtin; rw [← hw1]; refine wpList_push (by rfl) _ _ _ (by rfl) elt_stl Tryz.underlying76 (by rw [Hn.out]; rfl) H1.out.S' ⟨w.heap.size, 0, none⟩ 1 [.int .i64 (i : Int), .string s, .int .i64 (j : Int)] ⟨i, s, j⟩ (by rfl) ⟨rfl, hs, hi, hj⟩ Hnews.out (by rw [← Hn.out]; unfold maxLen; omega) (by rw [← Hn.out]; omega) hb0 (w.heap.size + 1) Hs1.out ?_)
  intro g9 cap9 w9 hown9 hgrow9 hat9 hlt9
  rw [← hw1] at hgrow9
  obtain ⟨hP9, hend⟩ := H1.out.push_stl HC.out hown9 hgrow9 (by rcases hat9 with h | h; exact .inl h; exact .inr (by rw [Hs1.out, h]; exact Nat.le_refl _))
  have HFr := Lib.hid ((PlFr.below HPz.out HBl.out).trans (H1.out.fr8 (n := st.2.length + 1) (cap := cap9) hgrow9 (by rcases hat9 with h | h; exact .inl h; exact .inr (by rw [Hs1.out, h]; exact Nat.le_refl _)) hP9))
  have y8 : w9.cell? ⟨C.P, 8, none⟩ = some (.slice A' st.2.length c') := cell_of_row _ _ 8 _ _ _ hP9
  have f8 : w9.frozen? ⟨C.P, 8, none⟩ = false := frozen_row hP9
  have Hend := Lib.hid hend
  clear hown9 hgrow9 hP9 x8 hend hw1 hat9
  go_wp2_with fail
  go_end0
  exact ⟨rfl, Hend.out, HFr.out⟩
theorem settle_any (C : PlCtx) (hC : C.Ok) (w : World) (st : PlSt) (hw : PlWd C w st) (i j : Nat) (hi : i ≤ 1000000) (hj : j ≤ 1000000) (s : ByteArray) (hs : s.size ≤ maxLen) (hlen : st.2.length ≤ 1000000) :
    Calls Tryz.prog 49 #[.pointer (some ⟨C.P, 0, none⟩), .int .i64 (i : Int), .string s, .int .i64 (j : Int)] w fun e w' => e = .returned (.tuple #[]) ∧ PlWd C w' (st.1, st.2 ++ [⟨i, s, j⟩]) ∧ PlFr C w w' := by
  obtain ⟨S, hS⟩ := hw.s
  refine (settleS_any C hC w st S hS i j hi hj s hs hlen).mono ?_
  rintro e w' ⟨h1, h2, h3⟩
  exact ⟨h1, h2.all, h3⟩
end Go.Proofs.YtminjjdnmpaaoaaGreatDoor
