/-
  Runs of ranks handed to an iterator, collected, put in order and joined: walked.
  Runs of ranks put in order and joined: slices.SortedFunc and span.joined, walked.
  Runs of ranks joined: span.joined, walked.
  strings.SplitSeq: an iterator over a text's parts, walked.
  Versions' texts in plain words: a text is read as the version whose text it is.
  vers.Parse: a version is read, walked.
  A word of a range: a version with a sign; span.word, walked.
  A range's text is read: span.Parse, walked.
  A version in a range: span.In and the document's, walked.
  Ranges folded, in plain words: one list for one set, and what fits.
-/
import Derived.Test.YthbnmehbhpakaaaGreatDoorOn15
import Derived.Shelf.Abstract
import Derived.Shelf.RegionOpen
import Derived.OwnWalkIn
import Derived.TacticsInMore
import Derived.LoopNIn
import Derived.LoopIn
import Derived.Deep.CutRange
import Derived.Deep.RegionLaw
import Derived.Test.YthbnmehbhpakaaaGreatDoorOn04
import Derived.Lib.Split
import Derived.Lib.SplitLaws
import Derived.Test.YthbnmehbhpakaaaGreatDoorOn05
import Derived.Shelf.Strings.Builder1
import Derived.Shelf.Strings.Builder2
import Derived.Shelf.Strings.OnBuilder
import Derived.Shelf.Strings.Trim
import Derived.Shelf.Small.Utf8
import Derived.Shelf.Small.Bits
import Derived.Shelf.Small.Strs
import Derived.Shelf.Small.Wraps
import Derived.Shelf.Strings.BuilderF
import Derived.Shelf.Strings.BuilderK
import Derived.Shelf.Utf8.RuneCount
import Derived.Shelf.Strings.Builder2Cap
import Derived.Shelf.Strconv.Atoi
import Derived.Shelf.Strconv.Itoa0
import Derived.Shelf.Strconv.Itoa1
import Derived.Shelf.LaysM
import Derived.Shelf.Strconv.Itoa2
import Derived.Shelf.Strconv.Itoa3
import Derived.Shelf.Strconv.AtoiErrFast
import Derived.Shelf.Strconv.ParseIntEmpty
import Derived.Shelf.Strconv.AtoiFail
import Derived.Shelf.Strconv.Clone
import Derived.Shelf.Strconv.SyntaxError
import Derived.Shelf.LaysC
import Derived.Shelf.Strconv.ToError
import Derived.Shelf.Strconv.Lower
import Derived.Shelf.Strconv.ParseUint10
import Derived.Shelf.Strconv.ParseUint10Empty
import Derived.Shelf.Strconv.ParseUint10Any
import Derived.Shelf.Strconv.ParseInt10
import Derived.Shelf.Strconv.AtoiLong
import Derived.Shelf.Strconv.AtoiInnerAll
import Derived.Shelf.Strconv.RangeError
import Derived.Shelf.Strconv.ToErrorRange
import Derived.Shelf.Strconv.AtoiAll
import Derived.Shelf.Strings.Search1
import Derived.Shelf.Strings.Search2
import Derived.Shelf.Strings.Search3
import Derived.Shelf.Strings.Count
import Derived.Shelf.Strings.Shaped
import Derived.Shelf.Strings.LastIndex
import Derived.Shelf.Strings.Prefix
import Derived.Shelf.Strings.Split
import Derived.Shelf.Strings.SplitShaped
import Derived.Shelf.Unicode.Decode
import Derived.Shelf.Strings.Runes
import Derived.Shelf.Strings.RuneCount
import Derived.Shelf.Strings.AsciiSet
import Derived.Shelf.Strings.Explode
import Derived.Shelf.Unicode.DecodeSlow
import Derived.Shelf.Unicode.DecodeAny
import Derived.Shelf.Unicode.DecodeLast
import Derived.Shelf.Slices.Equal
import Derived.Ground.Names2Prog
import Derived.Shelf.Slices.SearchI
import Derived.Shelf.Slices.Empties2
import Derived.Ground.SlsfProg
import Derived.Shelf.SlSortCmp.Insertion
import Derived.Shelf.SlSortCmp.SiftDown1
import Derived.Shelf.SlSortCmp.HeapSort1
import Derived.Shelf.SlSortCmp.Insertion1
import Derived.Shelf.SlSortCmp.Median1
import Derived.Shelf.SlSortCmp.Pivot1
import Derived.Shelf.SlSortCmp.ReverseRange1
import Derived.Shelf.SlSortCmp.PartialInsertion1
import Derived.Shelf.SlSortCmp.PartitionEqual1
import Derived.Shelf.SlSortCmp.Partition1
import Derived.Shelf.SlSortCmp.Pdq1
import Derived.Shelf.SlSortCmp.Whole1
import Derived.Shelf.SlSortCmp.NoneTotal
import Derived.Test.YthbnmehbhpakaaaGreatDoorProg
import Derived.Lib.PathFns
import Derived.Lib.IndexMore
import Derived.Lib.UnsafeStr
import Derived.Lib.AtoiAllCases
import Derived.Test.YthbnmehbhpakaaaGreatDoorOn08
set_option autoImplicit false
set_option relaxedAutoImplicit false
set_option linter.unusedVariables false
set_option linter.unusedSimpArgs false
namespace Go.Proofs.YthbnmehbhpakaaaGreatDoor
open Go.Rows Go.RowKit Go.Shelf Go.Sort

attribute [local go_sem] Oper.semAt_some

end Go.Proofs.YthbnmehbhpakaaaGreatDoor
set_option autoImplicit false
set_option relaxedAutoImplicit false
set_option linter.unusedVariables false
set_option linter.unusedSimpArgs false
namespace Go.Proofs.YthbnmehbhpakaaaGreatDoor
open Go.Rows Go.RowKit Go.Shelf Go.Sort

/-- runs that can be put in order by a subtraction -/
abbrev Rb := { x : Rk // (0 ≤ x.1 ∧ x.1 ≤ 1000000000) ∧ I64 x.2 }
instance : Inhabited Rb := ⟨⟨(0, 0), by unfold I64; omega⟩⟩
theorem sortWorldV_far (w : World) (g o m : Nat) (dk : Array Value) (os : Array Obj) {k : Nat} (hk : k < w.heap.size) (hne : k ≠ g) : (sortWorld id w g o m dk os).heap[k]? = w.heap[k]? := by
  unfold sortWorld
  have hs : (putRow id (Sort.ahead w m) g o dk).heap.size = w.heap.size := size_putRow id (Sort.ahead w m) g o dk
  rw [heap_grow_old _ _ (by rw [hs]; exact hk)]
  unfold putRow mapBlock
  simp only [Array.getElem?_modify]
  rw [if_neg (fun e => hne e.symm)]
  rfl
theorem sortWorldV_grown (w : World) (g o m : Nat) (dk : Array Value) (os : Array Obj) : w.grownBy (sortWorld id w g o m dk os) (some g) := by
  refine ⟨rfl, rfl, rfl, ?_, fun k hk hne => sortWorldV_far w g o m dk os hk (fun e => hne (by rw [e]))⟩
  unfold sortWorld
  rw [size_grow, size_putRow]
  show w.heap.size ≤ w.heap.size + os.size
  omega

end Go.Proofs.YthbnmehbhpakaaaGreatDoor
set_option autoImplicit false
set_option relaxedAutoImplicit false
set_option linter.unusedVariables false
set_option linter.unusedSimpArgs false
namespace Go.Proofs.YthbnmehbhpakaaaGreatDoor
open Go.Rows Go.RowKit Go.Shelf Go.Sort

theorem nrm_mem : ∀ {l : List Rk} {a : Int} {x : Rk}, Nrm a l → x ∈ l → a ≤ x.1 ∧ x.1 ≤ x.2 := by
  intro l
  induction l with
  | nil => intro a x _ h; simp at h
  | cons y l ih =>
    intro a x h hx
    obtain ⟨h1, h2, h3⟩ := h
    rcases List.mem_cons.1 hx with rfl | hx
    · exact ⟨h1, h2⟩
    · have := ih h3 hx; omega
theorem In0.take {l : List Rk} (h : In0 l) (k : Nat) : In0 (l.take k) := fun x hx => h x (List.mem_of_mem_take hx)
end Go.Proofs.YthbnmehbhpakaaaGreatDoor
set_option autoImplicit false
set_option relaxedAutoImplicit false
set_option linter.unusedVariables false
set_option linter.unusedSimpArgs false
namespace Go.Proofs.YthbnmehbhpakaaaGreatDoor
open Go.Rows Go.RowKit Go.Shelf Go.Sort

attribute [local go_sem] Oper.semAt_some

/-- a text's parts between the places of another one -/
def spl (s sep : ByteArray) : List ByteArray := Lib.splitB sep 0 s.size s
end Go.Proofs.YthbnmehbhpakaaaGreatDoor
set_option autoImplicit false
set_option relaxedAutoImplicit false
set_option linter.unusedVariables false
set_option linter.unusedSimpArgs false
namespace Go.Proofs.YthbnmehbhpakaaaGreatDoor
open Go.Rows Go.RowKit Go.Shelf Go.Sort

def Ver.txt (v : Ver) : ByteArray := verText v.major v.minor v.patch
open Classical in
/-- the version whose text it is -/
noncomputable def vparse (s : ByteArray) : Option Ver := if h : ∃ v : Ver, v.ok = true ∧ s = v.txt then some h.choose else none
/-- the texts of the numbers of a version: read as they are written; no dot in them -/
theorem itoa_part : ∀ k : Fin 1000, Lib.atoiAll (itoaB (k.val : Int)).data.toList = .ok (k.val : Int) ∧ (itoaB (k.val : Int)).data.toList.all (fun c => decide (48 ≤ c.toNat) && decide (c.toNat ≤ 57)) = true := by decide +kernel
theorem itoa_read {n : Int} (h0 : 0 ≤ n) (h1 : n ≤ 999) : Lib.atoiAll (itoaB n).data.toList = .ok n ∧ (itoaB n).data.toList.all (fun c => decide (48 ≤ c.toNat) && decide (c.toNat ≤ 57)) = true := by
  have := itoa_part ⟨n.toNat, by omega⟩
  rwa [show ((n.toNat : Nat) : Int) = n by omega] at this
theorem itoa_inj {n m : Int} (h0 : 0 ≤ n) (h1 : n ≤ 999) (h : itoaB n = itoaB m) (g0 : 0 ≤ m) (g1 : m ≤ 999) : n = m := by
  have e1 := (itoa_read h0 h1).1
  have e2 := (itoa_read g0 g1).1
  rw [h, e2] at e1
  cases e1; rfl
theorem index_dot {x y : List UInt8} (hx : x.all (fun c => decide (48 ≤ c.toNat) && decide (c.toNat ≤ 57)) = true) : Lib.index (x ++ 46 :: y) [46] = (x.length : Int) := by
  refine Lib.index_first (by simp) (by simp [Lib.occAt]) fun j hj => ?_
  unfold Lib.occAt
  rw [List.drop_append_of_le_length (by omega), List.drop_eq_getElem_cons hj]
  have := List.all_eq_true.1 hx _ (List.getElem_mem hj)
  simp only [List.cons_append, List.isPrefixOf, Bool.and_true]
  rw [beq_eq_false_iff_ne]
  intro e
  rw [← e] at this
  simp at this
theorem index_nodot {x : List UInt8} (hx : x.all (fun c => decide (48 ≤ c.toNat) && decide (c.toNat ≤ 57)) = true) : Lib.index x [46] = -1 := by
  refine Lib.index_none fun j hj => ?_
  unfold Lib.occAt
  by_cases hjl : j < x.length
  · rw [List.drop_eq_getElem_cons hjl]
    have := List.all_eq_true.1 hx _ (List.getElem_mem hjl)
    simp only [List.isPrefixOf, Bool.and_true]
    rw [beq_eq_false_iff_ne]
    intro e
    rw [← e] at this
    simp at this
  · rw [List.drop_eq_nil_of_le (by omega)]; rfl
theorem bytes_ext {a b : ByteArray} (h : a.data.toList = b.data.toList) : a = b := by
  cases a; cases b; simp only [ByteArray.mk.injEq]; exact Array.toList_inj.1 h
theorem parts_text {v : Ver} (h : v.ok = true) : Lib.countB v.txt dotB = 2 ∧ Lib.splitB dotB 0 2 v.txt = [itoaB v.major, itoaB v.minor, itoaB v.patch] := by
  obtain ⟨a, b, c⟩ := v
  have hv : verB a b c = true := h
  obtain ⟨⟨a0, a1⟩, ⟨b0, b1⟩, c0, c1⟩ := verB_iff.1 hv
  have ht : Ver.txt ⟨a, b, c⟩ = itoaB a ++ dotB ++ itoaB b ++ dotB ++ itoaB c := by show verText a b c = _; unfold verText; rw [if_pos hv]
  have ha := (itoa_read a0 a1).2
  have hb := (itoa_read b0 b1).2
  have hc := (itoa_read c0 c1).2
  rw [ht]
  simp only
  generalize itoaB a = A at *
  generalize itoaB b = B at *
  generalize itoaB c = C at *
  have hd : dotB.data.toList = [46] := rfl
  have e1 : (A ++ dotB ++ B ++ dotB ++ C).data.toList = A.data.toList ++ 46 :: (B ++ dotB ++ C).data.toList := by simp [ByteArray.data_append, hd]
  have e2 : (B ++ dotB ++ C).data.toList = B.data.toList ++ 46 :: C.data.toList := by simp [ByteArray.data_append, hd]
  have s1 : dotB.size = 1 := rfl
  have i1 : Lib.indexB (A ++ dotB ++ B ++ dotB ++ C) dotB = (A.size : Int) := by
    show Lib.index _ dotB.data.toList = _
    rw [e1, hd, index_dot ha]; rfl
  have i2 : Lib.indexB (B ++ dotB ++ C) dotB = (B.size : Int) := by
    show Lib.index _ dotB.data.toList = _
    rw [e2, hd, index_dot hb]; rfl
  have i3 : Lib.indexB C dotB = -1 := by
    show Lib.index _ dotB.data.toList = _
    rw [hd, index_nodot hc]
  have z1 : A.data.toList.length = A.size := rfl
  have z2 : B.data.toList.length = B.size := rfl
  have x1 : (A ++ dotB ++ B ++ dotB ++ C).extract (A.size + dotB.size) (A ++ dotB ++ B ++ dotB ++ C).size = B ++ dotB ++ C := by
    rw [Lib.extract_from, e1, s1]
    apply bytes_ext
    rw [List.drop_append, List.drop_eq_nil_of_le (by omega), z1, show A.size + 1 - A.size = 1 by omega]; rfl
  have x2 : (B ++ dotB ++ C).extract (B.size + dotB.size) (B ++ dotB ++ C).size = C := by
    rw [Lib.extract_from, e2, s1]
    apply bytes_ext
    rw [List.drop_append, List.drop_eq_nil_of_le (by omega), z2, show B.size + 1 - B.size = 1 by omega]; rfl
  have y1 : (A ++ dotB ++ B ++ dotB ++ C).extract 0 (A.size + 0) = A := by
    rw [Lib.extract_upto, e1]
    apply bytes_ext
    rw [List.take_append_of_le_length (by omega), List.take_of_length_le (by omega)]
  have y2 : (B ++ dotB ++ C).extract 0 (B.size + 0) = B := by
    rw [Lib.extract_upto, e2]
    apply bytes_ext
    rw [List.take_append_of_le_length (by omega), List.take_of_length_le (by omega)]
  constructor
  · rw [Lib.countB_hit _ _ _ (by decide) i1, x1, Lib.countB_hit _ _ _ (by decide) i2, x2, Lib.countB_miss _ _ i3]
  · rw [Lib.splitB_hit _ _ _ _ _ i1, x1, y1, Lib.splitB_hit _ _ _ _ _ i2, x2, y2, Lib.splitB_zero]
/-- a text that is a version's -/
theorem vparse_some {s : ByteArray} {v : Ver} (h : v.ok = true) (hs : s = v.txt) : vparse s = some v := by
  have hex : ∃ v : Ver, v.ok = true ∧ s = v.txt := ⟨v, h, hs⟩
  unfold vparse
  rw [dif_pos hex]
  obtain ⟨g1, g2⟩ := hex.choose_spec
  have hp1 := (parts_text h).2
  have hp2 := (parts_text g1).2
  rw [← hs] at hp1
  rw [← g2, hp1] at hp2
  simp only [List.cons.injEq, and_true] at hp2
  generalize hex.choose = u at *
  obtain ⟨a, b, c⟩ := v
  obtain ⟨a', b', c'⟩ := u
  obtain ⟨⟨a0, a1⟩, ⟨b0, b1⟩, c0, c1⟩ := verB_iff.1 (show verB a b c = true from h)
  obtain ⟨⟨p0, p1⟩, ⟨q0, q1⟩, r0, r1⟩ := verB_iff.1 (show verB a' b' c' = true from g1)
  simp only at hp2
  rw [itoa_inj a0 a1 hp2.1 p0 p1, itoa_inj b0 b1 hp2.2.1 q0 q1, itoa_inj c0 c1 hp2.2.2 r0 r1]
theorem vparse_no {s : ByteArray} (h : ∀ v : Ver, v.ok = true → s ≠ v.txt) : vparse s = none := by
  unfold vparse
  rw [dif_neg]
  rintro ⟨v, h1, h2⟩
  exact h v h1 h2
end Go.Proofs.YthbnmehbhpakaaaGreatDoor
set_option autoImplicit false
set_option relaxedAutoImplicit false
set_option linter.unusedVariables false
set_option linter.unusedSimpArgs false
namespace Go.Proofs.YthbnmehbhpakaaaGreatDoor
open Go.Rows Go.RowKit Go.Shelf Go.Sort

/-- what the package variables hold that the reading of numbers and texts looks at -/
structure Vok (w : World) : Prop where
  tab : Tab w
  maxLen : ∃ m : Int, w.cell? ⟨0, 0, none⟩ = some (.int .i64 m)
  errSyntax : ∃ te pe, w.cell? ⟨2, 0, none⟩ = some (.iface te pe)
  errRange : ∃ te pe, w.cell? ⟨3, 0, none⟩ = some (.iface te pe)
theorem Vok.below {w W : World} (h : Vok w) (hb : Below w.heap.size w W) : Vok W := by
  obtain ⟨h1, ⟨m, h2⟩, ⟨te, pe, h3⟩, ⟨tr, pr, h4⟩⟩ := h
  exact ⟨tab_below h1 hb, ⟨m, below_cell hb h2 (cell_lt h2)⟩, ⟨te, pe, below_cell hb h3 (cell_lt h3)⟩, ⟨tr, pr, below_cell hb h4 (cell_lt h4)⟩⟩
theorem results_cell_slot {P : Program} {fn : Func} {p q : Tmp} {ty : TypeId} (h : fn.results = #[.cell p ty, .tmp q]) (tmps : Array Value) (w : World) (g : Nat) (t : TypeId) (cs : Array Value) (fr : Nat × Nat) (d : TypeDesc)
    (hp : tmps.getD p undef = .pointer (some ⟨g, 0, none⟩)) (hg : w.heap[g]? = some (.cells cs t fr))
    (hu : P.underlying ty = some d) (hd : (match d with | .struct _ | .array _ _ => true | _ => false) = true) (hi : (P.info? ty).map (·.size) = some cs.size) :
    (results fn tmps).run P w = .ok (.tuple #[.agg cs, tmps.getD q undef]) w := by
  have hp' : tmps[p]?.getD undef = .pointer (some ⟨g, 0, none⟩) := by simpa using hp
  simp [results, h, hp', asAddr, run_loadVar_row w g t ty cs fr d hg hu hd hi]

end Go.Proofs.YthbnmehbhpakaaaGreatDoor
set_option autoImplicit false
set_option relaxedAutoImplicit false
set_option linter.unusedVariables false
set_option linter.unusedSimpArgs false
namespace Go.Proofs.YthbnmehbhpakaaaGreatDoor
open Go.Rows Go.RowKit Go.Shelf Go.Sort

def signsL : List UInt8 := [60, 62, 61, 94, 126]
/-- a word without the signs ahead of it -/
def bareB (s : ByteArray) : ByteArray := ⟨(Lib.trimLeftS s.data.toList signsL).toArray⟩
def signB (s : ByteArray) : ByteArray := s.extract 0 (s.size - (bareB s).size)
/-- the runs of a sign before a version -/
def signRk (g : List UInt8) (v : Ver) : Option Rk :=
  if g = [] ∨ g = [61] then some (v.rank, v.rank)
  else if g = [60] then some (0, v.rank - 1)
  else if g = [60, 61] then some (0, v.rank)
  else if g = [62] then some (v.rank + 1, lastR)
  else if g = [62, 61] then some (v.rank, lastR)
  else if g = [126] then some (v.rank, v.rank - v.patch + 999)
  else if g = [94] then (if 0 < v.major then some (v.rank, v.rank - v.patch + 999 + (999 - v.minor) * 1000) else if 0 < v.minor then some (v.rank, v.rank - v.patch + 999) else some (v.rank, v.rank))
  else none
noncomputable def wordF (s : ByteArray) : Option Rk :=
  if s = ⟨#[42]⟩ then some (0, lastR) else match vparse (bareB s) with
    | none => none
    | some v => signRk (signB s).data.toList v
theorem row2 {W : World} {b : Nat} {x y : Value} {t : TypeId} (h : W.heap[b]? = some (.cells #[x, y] t (0, 0))) : (W.cell? ⟨b, 0, none⟩ = some x ∧ W.cell? ⟨b, 1, none⟩ = some y) ∧ W.frozen? ⟨b, 0, none⟩ = false ∧ W.frozen? ⟨b, 1, none⟩ = false := by
  refine ⟨⟨cell_of_row _ _ 0 _ _ _ h, cell_of_row _ _ 1 _ _ _ h⟩, ?_, ?_⟩ <;> simp [World.frozen?, h]
end Go.Proofs.YthbnmehbhpakaaaGreatDoor
set_option autoImplicit false
set_option relaxedAutoImplicit false
set_option linter.unusedVariables false
set_option linter.unusedSimpArgs false
namespace Go.Proofs.YthbnmehbhpakaaaGreatDoor
open Go.Rows Go.RowKit Go.Shelf Go.Sort

attribute [local go_sem] Oper.semAt_some

def barsB : ByteArray := ⟨#[124, 124]⟩
def blankB : ByteArray := ⟨#[32]⟩
noncomputable def stepW (st : Option (Rk × Bool)) (s : ByteArray) : Option (Rk × Bool) := match st with
  | none => none
  | some (o, b) => if s = ⟨#[]⟩ then some (o, b) else match wordF s with
    | none => none
    | some x => some ((max o.1 x.1, min o.2 x.2), true)
noncomputable def innF (l : List ByteArray) : Option (Rk × Bool) := l.foldl stepW (some ((0, lastR), false))
noncomputable def stepA (st : Option (List Rk)) (a : ByteArray) : Option (List Rk) := match st with
  | none => none
  | some all => match innF (spl a blankB) with
    | none => none
    | some (o, b) => if b = false then none else if o.1 ≤ o.2 then some (all ++ [o]) else some all
noncomputable def altsF (l : List ByteArray) : Option (List Rk) := l.foldl stepA (some [])
/-- what a text is read as -/
noncomputable def parseS (t : ByteArray) : Option (List Rk) := if 4096 < t.size then none else altsF (spl t barsB)
noncomputable def parseQ (t : ByteArray) : List Spn × Int := match parseS t with
  | none => ([], 21)
  | some l => fitR (canon (Has l))
end Go.Proofs.YthbnmehbhpakaaaGreatDoor
set_option autoImplicit false
set_option relaxedAutoImplicit false
set_option linter.unusedVariables false
set_option linter.unusedSimpArgs false
namespace Go.Proofs.YthbnmehbhpakaaaGreatDoor
open Go.Rows Go.RowKit Go.Shelf Go.Sort

theorem spanGo_ok : ∀ {l : List Spn} {a : Int}, spanGo a l = true → (∀ s ∈ l, s.lo.ok = true ∧ s.hi.ok = true) ∧ Nrm a (rks l) := by
  intro l
  induction l with
  | nil => intro a _; exact ⟨fun s h => by simp at h, trivial⟩
  | cons s l ih =>
    intro a h
    unfold spanGo at h
    simp only [Bool.and_eq_true, decide_eq_true_eq] at h
    obtain ⟨⟨⟨⟨h1, h2⟩, h3⟩, h4⟩, h5⟩ := h
    obtain ⟨i1, i2⟩ := ih h5
    refine ⟨fun x hx => ?_, h3, h4, i2⟩
    rcases List.mem_cons.1 hx with rfl | hx
    · exact ⟨h1, h2⟩
    · exact i1 x hx
theorem spansB_ok {l : List Spn} (h : spansB l = true) : l.length ≤ 64 ∧ (∀ s ∈ l, s.lo.ok = true ∧ s.hi.ok = true) ∧ Nrm 0 (rks l) := by
  unfold spansB at h
  simp only [Bool.and_eq_true, decide_eq_true_eq] at h
  exact ⟨h.1, spanGo_ok h.2⟩
end Go.Proofs.YthbnmehbhpakaaaGreatDoor
set_option autoImplicit false
set_option relaxedAutoImplicit false
set_option linter.unusedVariables false
set_option linter.unusedSimpArgs false
namespace Go.Proofs.YthbnmehbhpakaaaGreatDoor

theorem ok_rank {v : Ver} (h : v.ok = true) : 0 ≤ v.rank ∧ v.rank ≤ lastR := by
  have hv := verB_iff.1 h
  rw [Ver.rank_ok h]
  unfold rankI lastR
  omega
theorem spans_in0 {l : List Spn} (h : spansB l = true) : In0 (rks l) := by
  obtain ⟨_, h2, h3⟩ := spansB_ok h
  intro x hx
  obtain ⟨_, q2⟩ := nrm_mem h3 hx
  unfold rks at hx
  obtain ⟨s, hs, rfl⟩ := List.mem_map.1 hx
  obtain ⟨o1, o2⟩ := h2 s hs
  exact ⟨(ok_rank o1).1, q2, (ok_rank o2).2⟩
theorem spans_nrm {l : List Spn} (h : spansB l = true) : Nrm 0 (rks l) := (spansB_ok h).2.2
theorem verAt_rank {v : Ver} (h : v.ok = true) : verAt v.rank = v := by
  have hv := verB_iff.1 h
  rw [Ver.rank_ok h]
  unfold verAt rankI
  obtain ⟨x, y, z⟩ := v
  simp only at hv ⊢
  congr 1 <;> omega
theorem spn_rks {l : List Spn} (h : spansB l = true) : (rks l).map spnAt = l := by
  obtain ⟨_, h2, _⟩ := spansB_ok h
  unfold rks
  rw [List.map_map]
  refine (List.map_congr_left fun s hs => ?_).trans (List.map_id _)
  obtain ⟨o1, o2⟩ := h2 s hs
  show (⟨verAt s.lo.rank, verAt s.hi.rank⟩ : Spn) = s
  rw [verAt_rank o1, verAt_rank o2]
theorem fitR_rks {l : List Spn} (h : spansB l = true) : fitR (rks l) = (l, 0) := by
  unfold fitR
  rw [if_pos (by rw [rks_len]; exact (spansB_ok h).1), spn_rks h]
end Go.Proofs.YthbnmehbhpakaaaGreatDoor
