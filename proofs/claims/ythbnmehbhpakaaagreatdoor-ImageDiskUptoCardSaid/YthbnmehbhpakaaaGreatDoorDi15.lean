/-
  In a tree that may be each directory but the root stands in just one other one's modules: the plain law.
  A graph as a lock's text, in plain words: what may be, and the text.
  A range over an iterator that keeps its place in a box of its own, and what turns behind it.
  DERIVED: THE SHELF's CONTRACTS AT THIS DUMP, IN PLAIN WORDS (tools/lay-plain.mjs out of 'TryzShelf.lean', which tools/lay-shelf.mjs wrote): THE SAME DECLARATIONS UNDER THE SAME NAMES: 'import', 'namespace', 'open', 'def', 'theorem' AND NOTHING ELSE: no command of the shelf's: FOR A HAND-IN. Each laying: the table of numbers ('.._ren') and one theorem, a field a fact of the dump's own or the kernel's comparison; each contract: ONE APPLICATION.
  Sets of ranks as lists of runs, in plain words: one list for one set.
  Sets of versions folded by runs of ranks: spans, fit, met, others, walked.
  Sets of versions folded by the document: has, added, ends, walked.
  Sets of versions folded by the document: ends, Folded, walked.
  Runs of ranks handed to an iterator, collected, put in order and joined: walked.
  Runs of ranks put in order and joined: slices.SortedFunc and span.joined, walked.
  Runs of ranks joined: span.joined, walked.
-/
import Derived.Test.YthbnmehbhpakaaaGreatDoorDi14
import Derived.Test.YthbnmehbhpakaaaGreatDoorDi07
import Derived.Test.YthbnmehbhpakaaaGreatDoorDi11
import Derived.RangeFuncNested
import Derived.RangeFuncBound
import Derived.RangeFuncCalls
import Derived.RangeFuncLeaves
import Derived.OwnWalkIn
import Derived.Test.YthbnmehbhpakaaaGreatDoorDi02
import Derived.Shelf.SlGeneric
import Derived.Shelf.SlSortCmp.WholeK
import Derived.Shelf.SlSortCmp.NoneTotal
import Derived.Ground.SlsfProg
import Derived.Test.YthbnmehbhpakaaaGreatDoorProg
import Derived.Test.YthbnmehbhpakaaaGreatDoorDi05
import Derived.Lib.Hide
import Derived.Test.YthbnmehbhpakaaaGreatDoorDi08
import Derived.Deep.LoopGhost
import Derived.WalkMore
import Derived.Deep.RegionHeld3
import Derived.Shelf.Abstract
import Derived.Shelf.RegionOpen
import Derived.TacticsInMore
import Derived.LoopNIn
import Derived.LoopIn
import Derived.Deep.CutRange
import Derived.Deep.RegionLaw
set_option autoImplicit false
set_option relaxedAutoImplicit false
set_option linter.unusedVariables false
set_option linter.unusedSimpArgs false
namespace Go.Proofs.YthbnmehbhpakaaaGreatDoor
open Go.Rows Go.RowKit Go.Shelf Go.Sort

theorem stands_above {t : List Dir} (h : checkE t = 0) {i : Nat} (hi : i < t.length) (h1 : 1 ≤ i) : 0 ≤ aboveI t t[i].path ∧ aboveI t t[i].path < (i : Int) := by
  have := okGo_stands t t 0 (checkE_ok h) i hi (by omega)
  rw [Nat.zero_add] at this
  unfold standsB at this
  simp only [Bool.and_eq_true, decide_eq_true_eq] at this
  exact ⟨this.2.2.2.2.2.1, this.2.2.2.2.2.2.1⟩
theorem findI_root {t : List Dir} (h : checkE t = 0) (h0 : 0 < t.length) : findI t [] = 0 := by
  have hr := root_of h h0
  match t, h0, hr with
  | d :: l, _, hr =>
    have hr : d.path = [] := hr
    unfold findI firstI
    rw [firstGo, hr, eqB_true rfl]; rfl
theorem findI_self {t : List Dir} (h : checkE t = 0) {i : Nat} (hi : i < t.length) : findI t t[i].path = (i : Int) := by
  rcases Nat.eq_zero_or_pos i with h0 | h0
  · subst h0; rw [root_of h hi]; exact findI_root h hi
  · exact (stands_of h hi h0).2.1
theorem aboveI_take (t : List Dir) {p : List ByteArray} {q : Nat} (h : p.length = q + 1) : aboveI t p = findI t (p.take q) := by
  unfold aboveI; rw [h]; rfl
/-- what is inside: those above which the directory stands -/
theorem inside_mem {t : List Dir} (h : checkE t = 0) {j y : Nat} (hj : j < t.length) : y ∈ insideL t j ↔ ∃ hy : y < t.length, 1 ≤ y ∧ aboveI t t[y].path = (j : Int) := by
  unfold insideL
  rw [List.getElem?_eq_getElem hj]
  show y ∈ insR (nmL t) (insQ t t[j].path) t.length ↔ _
  constructor
  · intro hm
    obtain ⟨hy, hq⟩ := insR_mem hm
    rw [insQ_at hy, Bool.and_eq_true, decide_eq_true_eq] at hq
    obtain ⟨h1, h2⟩ := hq
    have h2 := eqB_of h2
    refine ⟨hy, ?_, ?_⟩
    · rcases Nat.eq_zero_or_pos y with h0 | h0
      · subst h0; rw [root_of h hy] at h1; simp at h1
      · exact h0
    · rw [aboveI_take t h1, h2, findI_self h hj]
  · rintro ⟨hy, h1, h2⟩
    obtain ⟨hne, _, _⟩ := stands_of h hy h1
    obtain ⟨q, hq⟩ : ∃ q, t[y].path.length = q + 1 := ⟨t[y].path.length - 1, by have := List.length_pos_iff.2 hne; omega⟩
    rw [aboveI_take t hq] at h2
    obtain ⟨_, h3⟩ := findI_sound h2
    have hl : t[j].path.length = q := by rw [h3, List.length_take]; omega
    have hqq : insQ t t[j].path y = true := by
      rw [insQ_at hy, hl, hq, decide_eq_true rfl, h3, eqB_true rfl]; rfl
    rw [(insR_perm _ _ _).mem_iff, List.mem_filter, List.mem_range]
    exact ⟨hy, hqq⟩
theorem insideI_nat (t : List Dir) (j : Nat) : insideI t (j : Int) = insideL t j := by unfold insideI; rw [if_pos (by omega), Int.toNat_natCast]
/-- how often a directory has been seen, when those ahead of j are done, and the first k of j -/
def seenAt (t : List Dir) (j k y : Nat) : Prop := ∃ hy : y < t.length, 1 ≤ y ∧ (aboveI t t[y].path < (j : Int) ∨ y ∈ (insideL t j).take k)
theorem inseen_start (t : List Dir) {y : Nat} (h : checkE t = 0) : ¬ seenAt t 0 0 y := by
  rintro ⟨hy, h1, h2 | h2⟩
  · have := (stands_above h hy h1).1; omega
  · simp at h2
/-- the counts: 1 where it has been seen, else 0 -/
def Seen (t : List Dir) (j k : Nat) (l : List Int) : Prop := l.length = t.length ∧ ∀ y x, l[y]? = some x → (seenAt t j k y → x = 1) ∧ (¬ seenAt t j k y → x = 0)
theorem Seen.start {t : List Dir} (h : checkE t = 0) : Seen t 0 0 (List.replicate t.length 0) :=
  ⟨by simp, fun y x hx => by
    rw [List.getElem?_replicate] at hx
    split at hx
    · injection hx with hx
      exact ⟨fun hs => absurd hs (inseen_start t h), fun _ => hx.symm⟩
    · cases hx⟩
end Go.Proofs.YthbnmehbhpakaaaGreatDoor
set_option autoImplicit false
set_option relaxedAutoImplicit false
set_option linter.unusedVariables false
set_option linter.unusedSimpArgs false
namespace Go.Proofs.YthbnmehbhpakaaaGreatDoor
open Go

/-! ### names that rise -/
def risesGo : Option ByteArray → List ByteArray → Bool
  | _, [] => true
  | p, s :: l => (nameB s && behind p s) && risesGo (some s) l
def risesB (l : List ByteArray) : Bool := risesGo none l && decide (l.length ≤ 128)
def prevAt (l : List ByteArray) : Nat → Option ByteArray
  | 0 => none
  | k + 1 => l[k]?
theorem risesGo_step {l : List ByteArray} {k : Nat} {s : ByteArray} (h : l[k]? = some s) : risesGo (prevAt l k) (l.drop k) = ((nameB s && behind (prevAt l k) s) && risesGo (prevAt l (k + 1)) (l.drop (k + 1))) := by
  obtain ⟨hk, e⟩ := List.getElem?_eq_some_iff.1 h
  rw [List.drop_eq_getElem_cons hk, e, risesGo]
  show _ = ((nameB s && behind (prevAt l k) s) && risesGo l[k]? (l.drop (k + 1)))
  rw [h]
theorem risesGo_done {l : List ByteArray} {k : Nat} {p : Option ByteArray} (h : l.length ≤ k) : risesGo p (l.drop k) = true := by
  rw [List.drop_eq_nil_of_le h]; rfl
theorem risesGo_names : ∀ {l : List ByteArray} {p : Option ByteArray}, risesGo p l = true → ∀ s ∈ l, nameB s = true
  | [], _, _, s, hs => by cases hs
  | x :: l, p, h, s, hs => by
    rw [risesGo, Bool.and_eq_true, Bool.and_eq_true] at h
    rcases List.mem_cons.1 hs with rfl | hs
    · exact h.1.1
    · exact risesGo_names h.2 s hs

/-! ### what may be -/
def verOk (v : Ver) : Bool := verB v.major v.minor v.patch
def pinNames (l : List Pin) : List ByteArray := l.map (·.name)
def edgeNames (l : List Edge) : List ByteArray := l.map (·.label)
def pinsOk (l : List Pin) : Bool := l.all fun q => verOk q.ver
def edgesOk (many : Nat) (l : List Edge) : Bool := l.all fun e => decide (1 ≤ e.to) && decide (e.to < many)
def nodeOk (many : Nat) (x : Node) : Bool := ((risesB (pinNames x.ctx) && risesB (edgeNames x.edges)) && pinsOk x.ctx) && edgesOk many x.edges
def zeroV (v : Ver) : Bool := decide (v.major = 0) && (decide (v.minor = 0) && decide (v.patch = 0))
def headOk (i : Nat) (x : Node) : Bool := if i = 0 then (x.name.toList == []) && (zeroV x.ver && decide (x.ctx.length = 0)) else nameB x.name && verOk x.ver
def lockGo (many : Nat) : Nat → List Node → Bool
  | _, [] => true
  | i, x :: l => (headOk i x && nodeOk many x) && lockGo many (i + 1) l
def lockB (l : List Node) : Bool := (decide (1 ≤ l.length) && decide (l.length ≤ 128)) && lockGo l.length 0 l
theorem lockGo_step {many : Nat} {l : List Node} {k : Nat} {x : Node} (h : l[k]? = some x) : lockGo many k (l.drop k) = ((headOk k x && nodeOk many x) && lockGo many (k + 1) (l.drop (k + 1))) := by
  obtain ⟨hk, e⟩ := List.getElem?_eq_some_iff.1 h
  rw [List.drop_eq_getElem_cons hk, e, lockGo]
theorem lockGo_done {many : Nat} {l : List Node} {k : Nat} (h : l.length ≤ k) : lockGo many k (l.drop k) = true := by
  rw [List.drop_eq_nil_of_le h]; rfl
theorem lockGo_all : ∀ {l : List Node} {many i : Nat}, lockGo many i l = true → ∀ x ∈ l, nodeOk many x = true ∧ ∃ j, headOk j x = true
  | [], _, _, _, x, hx => by cases hx
  | y :: l, many, i, h, x, hx => by
    rw [lockGo, Bool.and_eq_true, Bool.and_eq_true] at h
    rcases List.mem_cons.1 hx with rfl | hx
    · exact ⟨h.1.2, i, h.1.1⟩
    · exact lockGo_all h.2 x hx

/-! ### the text -/
def lockW : ByteArray := ⟨#[108, 111, 99, 107, 10]⟩
def rootW : ByteArray := ⟨#[114, 111, 111, 116, 10]⟩
def nodeW : ByteArray := ⟨#[110, 111, 100, 101, 32]⟩
def withW : ByteArray := ⟨#[119, 105, 116, 104, 32]⟩
def toW : ByteArray := ⟨#[116, 111, 32]⟩
def verT (v : Ver) : ByteArray := verText v.major v.minor v.patch
def withL (q : Pin) : ByteArray := withW ++ q.name ++ spaceB ++ verT q.ver ++ nlB
def toL (e : Edge) : ByteArray := toW ++ e.label ++ spaceB ++ itoaB e.to ++ nlB
def withs : List Pin → ByteArray
  | [] => ⟨#[]⟩
  | q :: l => withL q ++ withs l
def tos : List Edge → ByteArray
  | [] => ⟨#[]⟩
  | e :: l => toL e ++ tos l
def nodeL (i : Nat) (x : Node) : ByteArray := if i = 0 then rootW else nodeW ++ x.name ++ spaceB ++ verT x.ver ++ nlB
def nodeT (i : Nat) (x : Node) : ByteArray := nodeL i x ++ withs x.ctx ++ tos x.edges
def nodesT : Nat → List Node → ByteArray
  | _, [] => ⟨#[]⟩
  | i, x :: l => nodeT i x ++ nodesT (i + 1) l
def lockText (l : List Node) : ByteArray := lockW ++ nodesT 0 l

theorem empty_appendB (a : ByteArray) : (⟨#[]⟩ : ByteArray) ++ a = a := by apply ByteArray.ext; simp [ByteArray.data_append]
theorem append_emptyB (a : ByteArray) : a ++ (⟨#[]⟩ : ByteArray) = a := by apply ByteArray.ext; simp [ByteArray.data_append]
theorem withs_append (a b : List Pin) : withs (a ++ b) = withs a ++ withs b := by
  induction a with
  | nil => rw [List.nil_append, withs, empty_appendB]
  | cons q a ih => rw [List.cons_append, withs, ih, withs, ByteArray.append_assoc]
theorem tos_append (a b : List Edge) : tos (a ++ b) = tos a ++ tos b := by
  induction a with
  | nil => rw [List.nil_append, tos, empty_appendB]
  | cons q a ih => rw [List.cons_append, tos, ih, tos, ByteArray.append_assoc]
theorem withs_take {l : List Pin} {k : Nat} {q : Pin} (h : l[k]? = some q) : withs (l.take (k + 1)) = withs (l.take k) ++ withL q := by
  rw [List.take_add_one, h, withs_append]
  show _ ++ (withL q ++ ⟨#[]⟩) = _
  rw [append_emptyB]
theorem tos_take {l : List Edge} {k : Nat} {q : Edge} (h : l[k]? = some q) : tos (l.take (k + 1)) = tos (l.take k) ++ toL q := by
  rw [List.take_add_one, h, tos_append]
  show _ ++ (toL q ++ ⟨#[]⟩) = _
  rw [append_emptyB]
theorem nodesT_append (a b : List Node) : ∀ i, nodesT i (a ++ b) = nodesT i a ++ nodesT (i + a.length) b := by
  induction a with
  | nil => intro i; rw [List.nil_append, nodesT, empty_appendB]; rfl
  | cons x a ih => intro i; rw [List.cons_append, nodesT, ih, nodesT, ByteArray.append_assoc, List.length_cons, show i + 1 + a.length = i + (a.length + 1) from by omega]
theorem nodesT_take {l : List Node} {k : Nat} {x : Node} (h : l[k]? = some x) : nodesT 0 (l.take (k + 1)) = nodesT 0 (l.take k) ++ nodeT k x := by
  have hk := (List.getElem?_eq_some_iff.1 h).1
  rw [List.take_add_one, h, nodesT_append, List.length_take, Nat.min_eq_left (by omega), Nat.zero_add]
  show _ ++ (nodeT k x ++ ⟨#[]⟩) = _
  rw [append_emptyB]

/-! ### how long it is -/
theorem itoaB_small {n : Int} (h0 : 0 ≤ n) (h1 : n ≤ 999) : (itoaB n).size ≤ 3 := by
  have : n.toNat < 1000 := by omega
  have e : itoaB n = ⟨(Lib.decDigits n.toNat).toArray⟩ := by unfold itoaB Lib.itoa; rw [if_neg (by omega)]
  rw [e]
  show (Lib.decDigits n.toNat).toArray.size ≤ 3
  simp only [List.size_toArray]
  have hd : ∀ k : Fin 1000, (Lib.decDigits k.val).length ≤ 3 := by decide +kernel
  exact hd ⟨n.toNat, this⟩
theorem withL_le {q : Pin} (h : q.name.size ≤ 16) : (withL q).size ≤ 40 := by
  have h1 : (verT q.ver).size ≤ 11 := verText_le _ _ _
  have z1 : spaceB.size = 1 := rfl
  have z2 : nlB.size = 1 := rfl
  have z3 : withW.size = 5 := rfl
  unfold withL
  simp only [ByteArray.size_append]
  omega
theorem toL_le {e : Edge} (h : e.label.size ≤ 16) (h0 : 0 ≤ e.to) (h1 : e.to ≤ 999) : (toL e).size ≤ 40 := by
  have h2 := itoaB_small h0 h1
  have z1 : spaceB.size = 1 := rfl
  have z2 : nlB.size = 1 := rfl
  have z3 : toW.size = 3 := rfl
  unfold toL
  simp only [ByteArray.size_append]
  omega
theorem nodeL_le {i : Nat} {x : Node} (h : x.name.size ≤ 16) : (nodeL i x).size ≤ 40 := by
  have h1 : (verT x.ver).size ≤ 11 := verText_le _ _ _
  have z1 : spaceB.size = 1 := rfl
  have z2 : nlB.size = 1 := rfl
  have z3 : nodeW.size = 5 := rfl
  have z4 : rootW.size = 5 := rfl
  unfold nodeL
  split
  · omega
  · simp only [ByteArray.size_append]
    omega
theorem withs_le {l : List Pin} (h : ∀ q ∈ l, q.name.size ≤ 16) : (withs l).size ≤ 40 * l.length := by
  induction l with
  | nil => exact Nat.le_refl _
  | cons q l ih =>
    have h1 := withL_le (h q (by simp))
    have h2 := ih (fun x hx => h x (by simp [hx]))
    rw [withs, ByteArray.size_append, List.length_cons]
    omega
theorem tos_le {l : List Edge} (h : ∀ e ∈ l, e.label.size ≤ 16 ∧ 0 ≤ e.to ∧ e.to ≤ 999) : (tos l).size ≤ 40 * l.length := by
  induction l with
  | nil => exact Nat.le_refl _
  | cons q l ih =>
    obtain ⟨a, b, c⟩ := h q (by simp)
    have h1 := toL_le a b c
    have h2 := ih (fun x hx => h x (by simp [hx]))
    rw [tos, ByteArray.size_append, List.length_cons]
    omega
/-- the bounds of a node that may be -/
def NodeZ (x : Node) : Prop := x.name.size ≤ 16 ∧ x.ctx.length ≤ 128 ∧ x.edges.length ≤ 128 ∧ (∀ q ∈ x.ctx, q.name.size ≤ 16) ∧ ∀ e ∈ x.edges, e.label.size ≤ 16 ∧ 0 ≤ e.to ∧ e.to ≤ 999
theorem nodeZ_of {x : Node} {many j : Nat} (hm : many ≤ 128) (h1 : nodeOk many x = true) (h2 : headOk j x = true) : NodeZ x := by
  unfold nodeOk at h1
  simp only [Bool.and_eq_true] at h1
  obtain ⟨⟨⟨a, b⟩, c⟩, d⟩ := h1
  unfold risesB at a b
  simp only [Bool.and_eq_true, decide_eq_true_eq] at a b
  unfold pinNames at a
  unfold edgeNames at b
  rw [List.length_map] at a b
  refine ⟨?_, a.2, b.2, fun q hq => ?_, fun e he => ⟨?_, ?_⟩⟩
  · unfold headOk at h2
    split at h2
    · simp only [Bool.and_eq_true] at h2
      have : x.name.toList = [] := by simpa using h2.1
      have e : x.name.size = x.name.toList.length := by rw [Go.ByteArray.toList_eq, Array.length_toList]; rfl
      rw [e, this]
      exact Nat.zero_le _
    · simp only [Bool.and_eq_true] at h2
      exact nameB_size h2.1
  · exact nameB_size (risesGo_names a.1 _ (List.mem_map.2 ⟨q, hq, rfl⟩))
  · exact nameB_size (risesGo_names b.1 _ (List.mem_map.2 ⟨e, he, rfl⟩))
  · have := List.all_eq_true.1 d e he
    simp only [Bool.and_eq_true, decide_eq_true_eq] at this
    omega
theorem lockB_nodes {l : List Node} (h : lockB l = true) : l.length ≤ 128 ∧ ∀ x ∈ l, NodeZ x := by
  unfold lockB at h
  simp only [Bool.and_eq_true, decide_eq_true_eq] at h
  refine ⟨h.1.2, fun x hx => ?_⟩
  obtain ⟨h1, j, h2⟩ := lockGo_all h.2 x hx
  exact nodeZ_of h.1.2 h1 h2
theorem nodeT_le {i : Nat} {x : Node} (h : NodeZ x) : (nodeT i x).size ≤ 10280 := by
  obtain ⟨a, b, c, d, e⟩ := h
  have h1 := nodeL_le (i := i) a
  have h2 := withs_le d
  have h3 := tos_le e
  unfold nodeT
  simp only [ByteArray.size_append]
  omega
theorem nodesT_le {l : List Node} (h : ∀ x ∈ l, NodeZ x) : ∀ i, (nodesT i l).size ≤ 10280 * l.length := by
  induction l with
  | nil => intro i; exact Nat.le_refl _
  | cons x l ih =>
    intro i
    have h1 := nodeT_le (i := i) (h x (by simp))
    have h2 := ih (fun y hy => h y (by simp [hy])) (i + 1)
    rw [nodesT, ByteArray.size_append, List.length_cons]
    omega
theorem lockText_le {l : List Node} (h : lockB l = true) : (lockText l).size ≤ 1400000 := by
  obtain ⟨a, b⟩ := lockB_nodes h
  have h1 := nodesT_le b 0
  have z : lockW.size = 5 := rfl
  unfold lockText
  rw [ByteArray.size_append]
  omega
/-- what Print gives -/
def lockP (l : List Node) : ByteArray × Int := if lockB l = true then (lockText l, 0) else (⟨#[]⟩, 33)
end Go.Proofs.YthbnmehbhpakaaaGreatDoor
set_option autoImplicit false
set_option relaxedAutoImplicit false
set_option linter.unusedVariables false
set_option linter.unusedSimpArgs false
namespace Go.Proofs.YthbnmehbhpakaaaGreatDoor
open Go.RowKit

/-- what has turned of what lay in W lies in X -/
structure Turn (X : Nat → Prop) (W W' : World) : Prop where
  os : W'.os = W.os
  tape : W'.tape = W.tape
  output : W'.output = W.output
  size : W.heap.size ≤ W'.heap.size
  block : ∀ k, k < W.heap.size → ¬ X k → W'.heap[k]? = W.heap[k]?
theorem Turn.refl (X : Nat → Prop) (W : World) : Turn X W W := ⟨rfl, rfl, rfl, Nat.le_refl _, fun _ _ _ => rfl⟩
theorem Turn.trans {X : Nat → Prop} {A B C : World} (h : Turn X A B) (k : Turn X B C) : Turn X A C :=
  ⟨k.os.trans h.os, k.tape.trans h.tape, k.output.trans h.output, Nat.le_trans h.size k.size, fun i hi hx => (k.block i (Nat.lt_of_lt_of_le hi h.size) hx).trans (h.block i hi hx)⟩
theorem Turn.mono {X Y : Nat → Prop} {A B : World} (h : Turn X A B) (hxy : ∀ k, k < A.heap.size → X k → Y k) : Turn Y A B := ⟨h.os, h.tape, h.output, h.size, fun i hi hy => h.block i hi fun hx => hy (hxy i hi hx)⟩
theorem Turn.below {X : Nat → Prop} {A B : World} {n : Nat} (h : Turn X A B) (hn : n ≤ A.heap.size) (hx : ∀ k, X k → n ≤ k) : Below n A B := ⟨h.os, h.tape, h.output, h.size, fun i hi => h.block i (by omega) fun hxi => by have := hx i hxi; omega⟩
theorem Turn.grown {X : Nat → Prop} {A B : World} {r : Option Nat} (h : A.grownBy B r) (hr : ∀ k, r = some k → X k) : Turn X A B := ⟨h.os, h.tape, h.output, h.size, fun i hi hx => h.block i hi fun e => hx (hr i e.symm)⟩
theorem Turn.set {X : Nat → Prop} (W : World) {b : Nat} (hb : X b) (v : Value) : Turn X W (W.setCell ⟨b, 0, none⟩ v) := Turn.grown (grownBy_setCell' W b v) fun k e => by cases e; exact hb
theorem Turn.alloc {X : Nat → Prop} (W : World) (o : Obj) : Turn X W (W.alloc o) := Turn.grown (r := none) (World.grownBy_alloc W o none) fun k e => by cases e
theorem Turn.put {X : Nat → Prop} (W : World) {b : Nat} (hb : X b) (o : Obj) : Turn X W (W.putObj b o) := Turn.grown (grownBy_putObj' W b o) fun k e => by cases e; exact hb
theorem Turn.at {X : Nat → Prop} {A B : World} (h : Turn X A B) {b : Nat} {o : Obj} (hb : A.heap[b]? = some o) (hx : ¬ X b) : B.heap[b]? = some o := (h.block b (Array.getElem?_eq_some_iff.1 hb).1 hx).trans hb

/-- an own row is made of cells -/
theorem Own.cells {α : Type} {r : Rp α} {A : World} {base : Nat} {e : TypeId} {v : Value} {l : List α} {S : Nat → Prop} (h : Own r A base e v l S) {g : Nat} (hg : v.ownBlock = some g) : base ≤ g ∧ ¬ ∃ o, A.heap[g]? = some o ∧ o.isCells = false := by
  obtain ⟨h0, xs, h1, h2⟩ := h
  rcases h1.2 with ⟨rfl, _⟩ | ⟨g', cap, cur, rfl, h2, h3, h4⟩
  · simp [Value.ownBlock] at hg
  · obtain rfl : g' = g := by simpa [Value.ownBlock] using hg
    refine ⟨h2, ?_⟩
    rintro ⟨o, ho, hc⟩
    rw [h3] at ho; cases ho; cases hc

variable {F : Fence} {n : Nat} {P : Program}

/-- what a round may turn: X; and what is made of cells and new -/
def Free (X : Nat → Prop) (lo : Nat) (A : World) (j : Nat) : Prop := X j ∨ (lo ≤ j ∧ ∃ o, A.heap[j]? = some o ∧ o.isCells = true)
theorem Free.no {X : Nat → Prop} {lo : Nat} {A : World} {j : Nat} {o : Obj} (hx : ¬ X j) (h : A.heap[j]? = some o) (hc : o.isCells = false) : ¬ Free X lo A j := by
  rintro (e | ⟨_, o', ho, hc'⟩)
  · exact hx e
  · rw [h] at ho; cases ho; rw [hc] at hc'; cases hc'
end Go.Proofs.YthbnmehbhpakaaaGreatDoor
namespace Go.Proofs
open Go.Shelf
def Tryz.sortDep_ren : Go.Shelf.Ren := ⟨fun | 6 => 189 | 15 => 83 | 14 => 244 | 28 => 147 | 29 => 148 | 20 => 281 | 21 => 282 | 22 => 283 | 23 => 284 | 24 => 285 | 25 => 286 | 26 => 287 | 27 => 288 | 46 => 313 | 47 => 207 | 48 => 208 | 49 => 314 | 50 => 315 | 57 => 332 | n => n, fun | 22 => 22 | 24 => 158 | 25 => 238 | 3 => 3 | 39 => 143 | 0 => 0 | 53 => 200 | 55 => 202 | 4 => 4 | 46 => 194 | 45 => 193 | 50 => 165 | 5 => 5 | 9 => 9 | 66 => 252 | 70 => 256 | 76 => 287 | 77 => 288 | n => n, fun | n => n⟩
theorem Tryz.sortDep : Go.Proofs.SlLaysF0.n6 Tryz.prog Tryz.sortDep_ren := {
  mixed := by kernel_rfl
  f6 := ⟨Tryz.f189.name, by decide, Tryz.func189.trans (congrArg some (by kernel_rfl))⟩
  f14 := ⟨Tryz.f244.name, by decide, Tryz.func244.trans (congrArg some (by kernel_rfl))⟩
  f15 := Tryz.func83.trans (congrArg some (by kernel_rfl))
  f20 := ⟨Tryz.f281.name, by decide, Tryz.func281.trans (congrArg some (by kernel_rfl))⟩
  f21 := ⟨Tryz.f282.name, by decide, Tryz.func282.trans (congrArg some (by kernel_rfl))⟩
  f22 := ⟨Tryz.f283.name, by decide, Tryz.func283.trans (congrArg some (by kernel_rfl))⟩
  f23 := ⟨Tryz.f284.name, by decide, Tryz.func284.trans (congrArg some (by kernel_rfl))⟩
  f24 := ⟨Tryz.f285.name, by decide, Tryz.func285.trans (congrArg some (by kernel_rfl))⟩
  f25 := ⟨Tryz.f286.name, by decide, Tryz.func286.trans (congrArg some (by kernel_rfl))⟩
  f26 := ⟨Tryz.f287.name, by decide, Tryz.func287.trans (congrArg some (by kernel_rfl))⟩
  f27 := ⟨Tryz.f288.name, by decide, Tryz.func288.trans (congrArg some (by kernel_rfl))⟩
  f28 := Tryz.func147.trans (congrArg some (by kernel_rfl))
  f29 := Tryz.func148.trans (congrArg some (by kernel_rfl))
  f46 := ⟨Tryz.f313.name, by decide, Tryz.func313.trans (congrArg some (by kernel_rfl))⟩
  f47 := Tryz.func207.trans (congrArg some (by kernel_rfl))
  f48 := Tryz.func208.trans (congrArg some (by kernel_rfl))
  f49 := ⟨Tryz.f314.name, by decide, Tryz.func314.trans (congrArg some (by kernel_rfl))⟩
  f50 := ⟨Tryz.f315.name, by decide, Tryz.func315.trans (congrArg some (by kernel_rfl))⟩
  f57 := ⟨Tryz.f332.name, by decide, Tryz.func332.trans (congrArg some (by kernel_rfl))⟩
  t0 := Tryz.underlying0
  a0 := Tryz.isAgg0
  z0 := Tryz.sizeOf0
  v0 := Tryz.zeroValue0
  t3 := Tryz.underlying3
  a3 := Tryz.isAgg3
  z3 := Tryz.sizeOf3
  v3 := Tryz.zeroValue3
  t4 := Tryz.underlying4
  a4 := Tryz.isAgg4
  z4 := Tryz.sizeOf4
  v4 := Tryz.zeroValue4
  t5 := Tryz.underlying5
  a5 := Tryz.isAgg5
  z5 := Tryz.sizeOf5
  v5 := Tryz.zeroValue5
  t9 := Tryz.underlying9
  a9 := Tryz.isAgg9
  z9 := Tryz.sizeOf9
  v9 := Tryz.zeroValue9
  t22 := Tryz.underlying22
  a22 := Tryz.isAgg22
  z22 := Tryz.sizeOf22
  v22 := Tryz.zeroValue22
  t25 := Tryz.underlying238
  a25 := Tryz.isAgg238
  z25 := Tryz.sizeOf238
  v25 := Tryz.zeroValue238
  t39 := Tryz.underlying143
  a39 := Tryz.isAgg143
  z39 := Tryz.sizeOf143
  v39 := Tryz.zeroValue143
  t45 := Tryz.underlying193
  a45 := Tryz.isAgg193
  z45 := Tryz.sizeOf193
  v45 := Tryz.zeroValue193
  t46 := Tryz.underlying194
  a46 := Tryz.isAgg194
  z46 := Tryz.sizeOf194
  v46 := Tryz.zeroValue194
  t50 := Tryz.underlying165
  a50 := Tryz.isAgg165
  z50 := Tryz.sizeOf165
  v50 := Tryz.zeroValue165
  t53 := Tryz.underlying200
  a53 := Tryz.isAgg200
  z53 := Tryz.sizeOf200
  v53 := Tryz.zeroValue200
  t55 := Tryz.underlying202
  a55 := Tryz.isAgg202
  z55 := Tryz.sizeOf202
  v55 := Tryz.zeroValue202
  t66 := Tryz.underlying252
  a66 := Tryz.isAgg252
  z66 := Tryz.sizeOf252
  v66 := Tryz.zeroValue252
  t70 := Tryz.underlying256
  a70 := Tryz.isAgg256
  z70 := Tryz.sizeOf256
  v70 := Tryz.zeroValue256
  t76 := Tryz.underlying287
  a76 := Tryz.isAgg287
  z76 := Tryz.sizeOf287
  v76 := Tryz.zeroValue287
  t77 := Tryz.underlying288
  a77 := Tryz.isAgg288
  z77 := Tryz.sizeOf288
  v77 := Tryz.zeroValue288 }
def Tryz.sortFile_ren : Go.Shelf.Ren := ⟨fun | 6 => 28 | 15 => 83 | 14 => 82 | 28 => 147 | 29 => 148 | 20 => 139 | 21 => 140 | 22 => 141 | 23 => 142 | 24 => 143 | 25 => 144 | 26 => 145 | 27 => 146 | 46 => 206 | 47 => 207 | 48 => 208 | 49 => 209 | 50 => 210 | 57 => 255 | n => n, fun | 22 => 33 | 24 => 45 | 25 => 78 | 3 => 3 | 39 => 143 | 0 => 0 | 53 => 200 | 55 => 202 | 4 => 4 | 46 => 194 | 45 => 193 | 50 => 165 | 5 => 5 | 9 => 9 | 66 => 252 | 70 => 256 | 76 => 287 | 77 => 288 | n => n, fun | n => n⟩
theorem Tryz.sortFile : Go.Proofs.SlLaysF0.n6 Tryz.prog Tryz.sortFile_ren := {
  mixed := by kernel_rfl
  f6 := ⟨Tryz.f28.name, by decide, Tryz.func28.trans (congrArg some (by kernel_rfl))⟩
  f14 := ⟨Tryz.f82.name, by decide, Tryz.func82.trans (congrArg some (by kernel_rfl))⟩
  f15 := Tryz.func83.trans (congrArg some (by kernel_rfl))
  f20 := ⟨Tryz.f139.name, by decide, Tryz.func139.trans (congrArg some (by kernel_rfl))⟩
  f21 := ⟨Tryz.f140.name, by decide, Tryz.func140.trans (congrArg some (by kernel_rfl))⟩
  f22 := ⟨Tryz.f141.name, by decide, Tryz.func141.trans (congrArg some (by kernel_rfl))⟩
  f23 := ⟨Tryz.f142.name, by decide, Tryz.func142.trans (congrArg some (by kernel_rfl))⟩
  f24 := ⟨Tryz.f143.name, by decide, Tryz.func143.trans (congrArg some (by kernel_rfl))⟩
  f25 := ⟨Tryz.f144.name, by decide, Tryz.func144.trans (congrArg some (by kernel_rfl))⟩
  f26 := ⟨Tryz.f145.name, by decide, Tryz.func145.trans (congrArg some (by kernel_rfl))⟩
  f27 := ⟨Tryz.f146.name, by decide, Tryz.func146.trans (congrArg some (by kernel_rfl))⟩
  f28 := Tryz.func147.trans (congrArg some (by kernel_rfl))
  f29 := Tryz.func148.trans (congrArg some (by kernel_rfl))
  f46 := ⟨Tryz.f206.name, by decide, Tryz.func206.trans (congrArg some (by kernel_rfl))⟩
  f47 := Tryz.func207.trans (congrArg some (by kernel_rfl))
  f48 := Tryz.func208.trans (congrArg some (by kernel_rfl))
  f49 := ⟨Tryz.f209.name, by decide, Tryz.func209.trans (congrArg some (by kernel_rfl))⟩
  f50 := ⟨Tryz.f210.name, by decide, Tryz.func210.trans (congrArg some (by kernel_rfl))⟩
  f57 := ⟨Tryz.f255.name, by decide, Tryz.func255.trans (congrArg some (by kernel_rfl))⟩
  t0 := Tryz.underlying0
  a0 := Tryz.isAgg0
  z0 := Tryz.sizeOf0
  v0 := Tryz.zeroValue0
  t3 := Tryz.underlying3
  a3 := Tryz.isAgg3
  z3 := Tryz.sizeOf3
  v3 := Tryz.zeroValue3
  t4 := Tryz.underlying4
  a4 := Tryz.isAgg4
  z4 := Tryz.sizeOf4
  v4 := Tryz.zeroValue4
  t5 := Tryz.underlying5
  a5 := Tryz.isAgg5
  z5 := Tryz.sizeOf5
  v5 := Tryz.zeroValue5
  t9 := Tryz.underlying9
  a9 := Tryz.isAgg9
  z9 := Tryz.sizeOf9
  v9 := Tryz.zeroValue9
  t22 := Tryz.underlying33
  a22 := Tryz.isAgg33
  z22 := Tryz.sizeOf33
  v22 := Tryz.zeroValue33
  t25 := Tryz.underlying78
  a25 := Tryz.isAgg78
  z25 := Tryz.sizeOf78
  v25 := Tryz.zeroValue78
  t39 := Tryz.underlying143
  a39 := Tryz.isAgg143
  z39 := Tryz.sizeOf143
  v39 := Tryz.zeroValue143
  t45 := Tryz.underlying193
  a45 := Tryz.isAgg193
  z45 := Tryz.sizeOf193
  v45 := Tryz.zeroValue193
  t46 := Tryz.underlying194
  a46 := Tryz.isAgg194
  z46 := Tryz.sizeOf194
  v46 := Tryz.zeroValue194
  t50 := Tryz.underlying165
  a50 := Tryz.isAgg165
  z50 := Tryz.sizeOf165
  v50 := Tryz.zeroValue165
  t53 := Tryz.underlying200
  a53 := Tryz.isAgg200
  z53 := Tryz.sizeOf200
  v53 := Tryz.zeroValue200
  t55 := Tryz.underlying202
  a55 := Tryz.isAgg202
  z55 := Tryz.sizeOf202
  v55 := Tryz.zeroValue202
  t66 := Tryz.underlying252
  a66 := Tryz.isAgg252
  z66 := Tryz.sizeOf252
  v66 := Tryz.zeroValue252
  t70 := Tryz.underlying256
  a70 := Tryz.isAgg256
  z70 := Tryz.sizeOf256
  v70 := Tryz.zeroValue256
  t76 := Tryz.underlying287
  a76 := Tryz.isAgg287
  z76 := Tryz.sizeOf287
  v76 := Tryz.zeroValue287
  t77 := Tryz.underlying288
  a77 := Tryz.isAgg288
  z77 := Tryz.sizeOf288
  v77 := Tryz.zeroValue288 }
end Go.Proofs
set_option autoImplicit false
set_option relaxedAutoImplicit false
set_option linter.unusedVariables false
set_option linter.unusedSimpArgs false
namespace Go.Proofs.YthbnmehbhpakaaaGreatDoor

abbrev Rk := Int × Int
/-- is a rank in one of the runs? -/
def Has (l : List Rk) (n : Int) : Prop := ∃ x ∈ l, x.1 ≤ n ∧ n ≤ x.2
/-! ### what two lists have in common -/
/-! ### what a list has not -/
def lastR : Int := 999999999
def Bnd (l : List Rk) : Prop := ∀ x ∈ l, x.2 ≤ lastR
theorem Bnd.has {l : List Rk} (h : Bnd l) {n : Int} (hn : Has l n) : n ≤ lastR := by
  obtain ⟨x, hx, h1, h2⟩ := hn
  have := h x hx
  omega
/-! ### ranks that are put in order, without those that touch -/
/-! ### where all places are tried -/
/-- between two of the places nothing changes; the last one is behind the last rank -/
def Steady (q : Int → Bool) : List Int → Prop
  | [] => False
  | [m] => m = lastR + 1
  | m :: m' :: L => m < m' ∧ (∀ n, m ≤ n → n < m' → q n = q m) ∧ Steady q (m' :: L)
theorem Steady.le {q : Int → Bool} : ∀ {L : List Int} {m : Int}, Steady q (m :: L) → m ≤ lastR + 1 := by
  intro L
  induction L with
  | nil => intro m h; have : m = lastR + 1 := h; omega
  | cons m' L ih => intro m h; have := ih h.2.2; have := h.1; omega
/-- runs that are among the ranks -/
def In0 (l : List Rk) : Prop := ∀ x ∈ l, 0 ≤ x.1 ∧ x.1 ≤ x.2 ∧ x.2 ≤ lastR
end Go.Proofs.YthbnmehbhpakaaaGreatDoor
set_option autoImplicit false
set_option relaxedAutoImplicit false
set_option linter.unusedVariables false
set_option linter.unusedSimpArgs false
namespace Go.Proofs.YthbnmehbhpakaaaGreatDoor
open Go.Rows Go.RowKit Go.Shelf Go.Sort

def Small (l : List Rk) : Prop := ∀ x ∈ l, x.1.natAbs ≤ 4000000000 ∧ x.2.natAbs ≤ 4000000000
theorem Small.i64 {l : List Rk} (h : Small l) {x : Rk} (hx : x ∈ l) : I64 x.1 ∧ I64 x.2 := by have := h x hx; unfold I64; omega
end Go.Proofs.YthbnmehbhpakaaaGreatDoor
set_option autoImplicit false
set_option relaxedAutoImplicit false
set_option linter.unusedVariables false
set_option linter.unusedSimpArgs false
namespace Go.Proofs.YthbnmehbhpakaaaGreatDoor
open Go.Rows Go.RowKit Go.Shelf Go.Sort

end Go.Proofs.YthbnmehbhpakaaaGreatDoor
set_option autoImplicit false
set_option relaxedAutoImplicit false
set_option linter.unusedVariables false
set_option linter.unusedSimpArgs false
namespace Go.Proofs.YthbnmehbhpakaaaGreatDoor
open Go.Rows Go.RowKit Go.Shelf Go.Sort

theorem heap_set1 {W : World} {b o : Nat} {cs : Array Value} {t : TypeId} {fr : Nat × Nat} (h : W.heap[b]? = some (.cells cs t fr)) (v : Value) : (W.setCell ⟨b, o, none⟩ v).heap[b]? = some (.cells (cs.setIfInBounds o v) t fr) := by
  obtain ⟨hlt, hk⟩ := Array.getElem?_eq_some_iff.1 h
  show (W.heap.modify b _)[b]? = _
  rw [Array.getElem?_eq_getElem (by rw [Array.size_modify]; exact hlt), Array.getElem_modify_self, hk]
  rfl
end Go.Proofs.YthbnmehbhpakaaaGreatDoor
set_option autoImplicit false
set_option relaxedAutoImplicit false
set_option linter.unusedVariables false
set_option linter.unusedSimpArgs false
namespace Go.Proofs.YthbnmehbhpakaaaGreatDoor
open Go.Rows Go.RowKit Go.Shelf Go.Sort

attribute [local go_sem] Oper.semAt_some

end Go.Proofs.YthbnmehbhpakaaaGreatDoor
set_option autoImplicit false
set_option relaxedAutoImplicit false
set_option linter.unusedVariables false
set_option linter.unusedSimpArgs false
namespace Go.Proofs.YthbnmehbhpakaaaGreatDoor
open Go.Rows Go.RowKit Go.Shelf Go.Sort

/-- runs that can be put in order by a subtraction -/
abbrev Rb := { x : Rk // (0 ≤ x.1 ∧ x.1 ≤ 1000000000) ∧ I64 x.2 }
instance : Inhabited Rb := ⟨⟨(0, 0), by unfold I64; omega⟩⟩
theorem sortWorldV_far (w : World) (g o m : Nat) (dk : Array Value) (os : Array Obj) {k : Nat} (hk : k < w.heap.size) (hne : k ≠ g) : (sortWorld id w g o m dk os).heap[k]? = w.heap[k]? := by
  unfold sortWorld
  have hs : (putRow id (Sort.ahead w m) g o dk).heap.size = w.heap.size := size_putRow id (Sort.ahead w m) g o dk
  rw [heap_grow_old _ _ (by rw [hs]; exact hk)]
  unfold putRow mapBlock
  simp only [Array.getElem?_modify]
  rw [if_neg (fun e => hne e.symm)]
  rfl
theorem sortWorldV_grown (w : World) (g o m : Nat) (dk : Array Value) (os : Array Obj) : w.grownBy (sortWorld id w g o m dk os) (some g) := by
  refine ⟨rfl, rfl, rfl, ?_, fun k hk hne => sortWorldV_far w g o m dk os hk (fun e => hne (by rw [e]))⟩
  unfold sortWorld
  rw [size_grow, size_putRow]
  show w.heap.size ≤ w.heap.size + os.size
  omega

end Go.Proofs.YthbnmehbhpakaaaGreatDoor
set_option autoImplicit false
set_option relaxedAutoImplicit false
set_option linter.unusedVariables false
set_option linter.unusedSimpArgs false
namespace Go.Proofs.YthbnmehbhpakaaaGreatDoor
open Go.Rows Go.RowKit Go.Shelf Go.Sort

theorem In0.take {l : List Rk} (h : In0 l) (k : Nat) : In0 (l.take k) := fun x hx => h x (List.mem_of_mem_take hx)
end Go.Proofs.YthbnmehbhpakaaaGreatDoor
