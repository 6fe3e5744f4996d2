/-
  Versions' texts in plain words: a text is read as the version whose text it is.
  vers.Parse: a version is read, walked.
  A word of a range: a version with a sign; span.word, walked.
  A range's text is read: span.Parse, walked.
  A text's parts between two bars, between blanks, byte by byte, in plain words.
  A version's text read byte by byte, as the document does, in plain words.
  A word of a range read as the document does, in plain words: the first of its signs that stands ahead.
  Ranges' texts read, in plain words: a word, a printed range, two texts in one.
  A text as lines of words, in plain words: as the document splits it, and as the program goes through it byte by byte.
  A package's text read, in plain words; what is written is read as it was.
  What follows of packages' texts, in plain words: however a range is written; one text for one package.
  The package whose text is fixed, in plain words.
  Manifests as data, and opened. (Printed by gen_data.py.)
  A manifest's text read, in plain words; what is written is read as it was.
  Paths' texts in plain words: a text is at most one path's.
-/
import Derived.Test.YthbnmehbhpakaaaGreatDoorDi05
import Derived.Shelf.Strings.Builder1
import Derived.Shelf.Strings.Builder2
import Derived.Shelf.Strings.OnBuilder
import Derived.Shelf.Strings.Trim
import Derived.Shelf.Small.Utf8
import Derived.Shelf.Small.Bits
import Derived.Shelf.Small.Strs
import Derived.Shelf.Small.Wraps
import Derived.Shelf.Strings.BuilderF
import Derived.Shelf.Strings.BuilderK
import Derived.Shelf.Utf8.RuneCount
import Derived.Shelf.Strings.Builder2Cap
import Derived.Shelf.Strconv.Atoi
import Derived.Shelf.Strconv.Itoa0
import Derived.Shelf.Strconv.Itoa1
import Derived.Shelf.LaysM
import Derived.Shelf.Strconv.Itoa2
import Derived.Shelf.Strconv.Itoa3
import Derived.Shelf.Strconv.AtoiErrFast
import Derived.Shelf.Strconv.ParseIntEmpty
import Derived.Shelf.Strconv.AtoiFail
import Derived.Shelf.Strconv.Clone
import Derived.Shelf.Strconv.SyntaxError
import Derived.Shelf.LaysC
import Derived.Shelf.Strconv.ToError
import Derived.Shelf.Strconv.Lower
import Derived.Shelf.Strconv.ParseUint10
import Derived.Shelf.Strconv.ParseUint10Empty
import Derived.Shelf.Strconv.ParseUint10Any
import Derived.Shelf.Strconv.ParseInt10
import Derived.Shelf.Strconv.AtoiLong
import Derived.Shelf.Strconv.AtoiInnerAll
import Derived.Shelf.Strconv.RangeError
import Derived.Shelf.Strconv.ToErrorRange
import Derived.Shelf.Strconv.AtoiAll
import Derived.Shelf.Strings.Search1
import Derived.Shelf.Strings.Search2
import Derived.Shelf.Strings.Search3
import Derived.Shelf.Strings.Count
import Derived.Shelf.Strings.Shaped
import Derived.Shelf.Strings.LastIndex
import Derived.Shelf.Strings.Prefix
import Derived.Shelf.Strings.Split
import Derived.Shelf.Strings.SplitShaped
import Derived.Shelf.Unicode.Decode
import Derived.Shelf.Strings.Runes
import Derived.Shelf.Strings.RuneCount
import Derived.Shelf.Strings.AsciiSet
import Derived.Shelf.Strings.Explode
import Derived.Shelf.Unicode.DecodeSlow
import Derived.Shelf.Unicode.DecodeAny
import Derived.Shelf.Unicode.DecodeLast
import Derived.Shelf.Slices.Equal
import Derived.Ground.Names2Prog
import Derived.Shelf.Slices.SearchI
import Derived.Shelf.Slices.Empties2
import Derived.Ground.SlsfProg
import Derived.Shelf.SlSortCmp.Insertion
import Derived.Shelf.SlSortCmp.SiftDown1
import Derived.Shelf.SlSortCmp.HeapSort1
import Derived.Shelf.SlSortCmp.Insertion1
import Derived.Shelf.SlSortCmp.Median1
import Derived.Shelf.SlSortCmp.Pivot1
import Derived.Shelf.SlSortCmp.ReverseRange1
import Derived.Shelf.SlSortCmp.PartialInsertion1
import Derived.Shelf.SlSortCmp.PartitionEqual1
import Derived.Shelf.SlSortCmp.Partition1
import Derived.Shelf.SlSortCmp.Pdq1
import Derived.Shelf.SlSortCmp.Whole1
import Derived.Shelf.SlSortCmp.NoneTotal
import Derived.Test.YthbnmehbhpakaaaGreatDoorProg
import Derived.Test.YthbnmehbhpakaaaGreatDoorDi04
import Derived.Lib.Split
import Derived.Lib.SplitLaws
import Derived.Lib.PathFns
import Derived.Lib.IndexMore
import Derived.Test.YthbnmehbhpakaaaGreatDoorDi15
import Derived.Lib.UnsafeStr
import Derived.Lib.AtoiAllCases
import Derived.Test.YthbnmehbhpakaaaGreatDoorDi08
import Derived.Shelf.Abstract
import Derived.Shelf.RegionOpen
import Derived.OwnWalkIn
import Derived.TacticsInMore
import Derived.LoopNIn
import Derived.LoopIn
import Derived.Test.YthbnmehbhpakaaaGreatDoorDi11
import Derived.Test.YthbnmehbhpakaaaGreatDoorDi03
import Derived.KernelRfl
import Derived.Test.YthbnmehbhpakaaaGreatDoorDi12
set_option autoImplicit false
set_option relaxedAutoImplicit false
set_option linter.unusedVariables false
set_option linter.unusedSimpArgs false
namespace Go.Proofs.YthbnmehbhpakaaaGreatDoor
open Go.Rows Go.RowKit Go.Shelf Go.Sort

theorem bytes_ext {a b : ByteArray} (h : a.data.toList = b.data.toList) : a = b := by
  cases a; cases b; simp only [ByteArray.mk.injEq]; exact Array.toList_inj.1 h
end Go.Proofs.YthbnmehbhpakaaaGreatDoor
set_option autoImplicit false
set_option relaxedAutoImplicit false
set_option linter.unusedVariables false
set_option linter.unusedSimpArgs false
namespace Go.Proofs.YthbnmehbhpakaaaGreatDoor
open Go.Rows Go.RowKit Go.Shelf Go.Sort

/-- what the package variables hold that the reading of numbers and texts looks at -/
structure Vok (w : World) : Prop where
  tab : Tab w
  maxLen : ∃ m : Int, w.cell? ⟨0, 0, none⟩ = some (.int .i64 m)
  errSyntax : ∃ te pe, w.cell? ⟨2, 0, none⟩ = some (.iface te pe)
  errRange : ∃ te pe, w.cell? ⟨3, 0, none⟩ = some (.iface te pe)
theorem Vok.below {w W : World} (h : Vok w) (hb : Below w.heap.size w W) : Vok W := by
  obtain ⟨h1, ⟨m, h2⟩, ⟨te, pe, h3⟩, ⟨tr, pr, h4⟩⟩ := h
  exact ⟨tab_below h1 hb, ⟨m, below_cell hb h2 (cell_lt h2)⟩, ⟨te, pe, below_cell hb h3 (cell_lt h3)⟩, ⟨tr, pr, below_cell hb h4 (cell_lt h4)⟩⟩
theorem results_cell_slot {P : Program} {fn : Func} {p q : Tmp} {ty : TypeId} (h : fn.results = #[.cell p ty, .tmp q]) (tmps : Array Value) (w : World) (g : Nat) (t : TypeId) (cs : Array Value) (fr : Nat × Nat) (d : TypeDesc)
    (hp : tmps.getD p undef = .pointer (some ⟨g, 0, none⟩)) (hg : w.heap[g]? = some (.cells cs t fr))
    (hu : P.underlying ty = some d) (hd : (match d with | .struct _ | .array _ _ => true | _ => false) = true) (hi : (P.info? ty).map (·.size) = some cs.size) :
    (results fn tmps).run P w = .ok (.tuple #[.agg cs, tmps.getD q undef]) w := by
  have hp' : tmps[p]?.getD undef = .pointer (some ⟨g, 0, none⟩) := by simpa using hp
  simp [results, h, hp', asAddr, run_loadVar_row w g t ty cs fr d hg hu hd hi]

end Go.Proofs.YthbnmehbhpakaaaGreatDoor
set_option autoImplicit false
set_option relaxedAutoImplicit false
set_option linter.unusedVariables false
set_option linter.unusedSimpArgs false
namespace Go.Proofs.YthbnmehbhpakaaaGreatDoor
open Go.Rows Go.RowKit Go.Shelf Go.Sort

theorem row2 {W : World} {b : Nat} {x y : Value} {t : TypeId} (h : W.heap[b]? = some (.cells #[x, y] t (0, 0))) : (W.cell? ⟨b, 0, none⟩ = some x ∧ W.cell? ⟨b, 1, none⟩ = some y) ∧ W.frozen? ⟨b, 0, none⟩ = false ∧ W.frozen? ⟨b, 1, none⟩ = false := by
  refine ⟨⟨cell_of_row _ _ 0 _ _ _ h, cell_of_row _ _ 1 _ _ _ h⟩, ?_, ?_⟩ <;> simp [World.frozen?, h]
end Go.Proofs.YthbnmehbhpakaaaGreatDoor
set_option autoImplicit false
set_option relaxedAutoImplicit false
set_option linter.unusedVariables false
set_option linter.unusedSimpArgs false
namespace Go.Proofs.YthbnmehbhpakaaaGreatDoor
open Go.Rows Go.RowKit Go.Shelf Go.Sort

attribute [local go_sem] Oper.semAt_some

end Go.Proofs.YthbnmehbhpakaaaGreatDoor
set_option autoImplicit false
set_option relaxedAutoImplicit false
set_option linter.unusedVariables false
set_option linter.unusedSimpArgs false
namespace Go.Proofs.YthbnmehbhpakaaaGreatDoor

def mkB (l : List UInt8) : ByteArray := ⟨l.toArray⟩
theorem mkB_data (l : List UInt8) : (mkB l).data.toList = l := rfl
theorem mkB_self (s : ByteArray) : mkB s.data.toList = s := bytes_ext rfl
end Go.Proofs.YthbnmehbhpakaaaGreatDoor
set_option autoImplicit false
set_option relaxedAutoImplicit false
set_option linter.unusedVariables false
set_option linter.unusedSimpArgs false
namespace Go.Proofs.YthbnmehbhpakaaaGreatDoor

end Go.Proofs.YthbnmehbhpakaaaGreatDoor
set_option autoImplicit false
set_option relaxedAutoImplicit false
set_option linter.unusedVariables false
set_option linter.unusedSimpArgs false
namespace Go.Proofs.YthbnmehbhpakaaaGreatDoor

end Go.Proofs.YthbnmehbhpakaaaGreatDoor
set_option autoImplicit false
set_option relaxedAutoImplicit false
set_option linter.unusedVariables false
set_option linter.unusedSimpArgs false
namespace Go.Proofs.YthbnmehbhpakaaaGreatDoor

/-! ### words -/
/-! ### alternatives -/
/-! ### two texts in one -/
end Go.Proofs.YthbnmehbhpakaaaGreatDoor
set_option autoImplicit false
set_option relaxedAutoImplicit false
set_option linter.unusedVariables false
set_option linter.unusedSimpArgs false
namespace Go.Proofs.YthbnmehbhpakaaaGreatDoor

/-- parts between a byte; what stands ahead is the first one's beginning -/
def splL (b : UInt8) : List UInt8 → List UInt8 → List (List UInt8)
  | acc, [] => [acc]
  | acc, c :: t => if c = b then acc :: splL b [] t else splL b (acc ++ [c]) t
theorem splL_hit (b : UInt8) (acc t : List UInt8) : splL b acc (b :: t) = acc :: splL b [] t := by rw [splL, if_pos rfl]
theorem splL_next {b c : UInt8} (h : c ≠ b) (acc t : List UInt8) : splL b acc (c :: t) = splL b (acc ++ [c]) t := by rw [splL, if_neg h]
theorem splL_acc (b : UInt8) : ∀ (s acc : List UInt8), ∃ p l, splL b [] s = p :: l ∧ splL b acc s = (acc ++ p) :: l := by
  intro s
  induction s with
  | nil => intro acc; exact ⟨[], [], rfl, by rw [splL, List.append_nil]⟩
  | cons c s ih =>
    intro acc
    by_cases h : c = b
    · subst h; exact ⟨[], splL c [] s, splL_hit _ _ _, by rw [splL_hit, List.append_nil]⟩
    · obtain ⟨p, l, h1, h2⟩ := ih [c]
      obtain ⟨p', l', h3, h4⟩ := ih (acc ++ [c])
      rw [h1] at h3
      cases h3
      exact ⟨[c] ++ p, l, by rw [splL_next h, List.nil_append, h2], by rw [splL_next h, h4, List.append_assoc]⟩
theorem splL_no (b : UInt8) : ∀ (s acc : List UInt8), b ∉ s → splL b acc s = [acc ++ s] := by
  intro s
  induction s with
  | nil => intro acc _; rw [splL, List.append_nil]
  | cons c s ih =>
    intro acc h
    rw [List.mem_cons, not_or] at h
    rw [splL_next (fun e => h.1 e.symm), ih _ h.2, List.append_assoc]; rfl
theorem splL_part (b : UInt8) : ∀ (p acc t : List UInt8), b ∉ p → splL b acc (p ++ b :: t) = (acc ++ p) :: splL b [] t := by
  intro p
  induction p with
  | nil => intro acc t _; rw [List.nil_append, splL_hit, List.append_nil]
  | cons c p ih =>
    intro acc t h
    rw [List.mem_cons, not_or] at h
    rw [List.cons_append, splL_next (fun e => h.1 e.symm), ih _ _ h.2, List.append_assoc]; rfl
theorem splL_append (b : UInt8) : ∀ (s acc t : List UInt8), splL b acc (s ++ b :: t) = splL b acc s ++ splL b [] t := by
  intro s
  induction s with
  | nil => intro acc t; rw [List.nil_append, splL_hit, splL]; rfl
  | cons c s ih =>
    intro acc t
    by_cases h : c = b
    · subst h; rw [List.cons_append, splL_hit, splL_hit, ih, List.cons_append]
    · rw [List.cons_append, splL_next h, splL_next h, ih]
/-- one byte more at the end -/
theorem splL_snoc_other (b : UInt8) {c : UInt8} (hc : c ≠ b) : ∀ (s acc : List UInt8) (ws : List (List UInt8)) (cur : List UInt8), splL b acc s = ws ++ [cur] → splL b acc (s ++ [c]) = ws ++ [cur ++ [c]] := by
  intro s
  induction s with
  | nil =>
    intro acc ws cur h
    rw [splL] at h
    rw [List.nil_append, splL_next hc, splL]
    cases ws with
    | nil => simp only [List.nil_append, List.cons.injEq, and_true] at h; rw [h]; rfl
    | cons x ws => simp at h
  | cons d s ih =>
    intro acc ws cur h
    by_cases hd : d = b
    · subst hd
      rw [splL_hit] at h
      rw [List.cons_append, splL_hit]
      cases ws with
      | nil =>
        obtain ⟨p, l, h1, _⟩ := splL_acc d s []
        rw [h1] at h
        simp at h
      | cons x ws =>
        rw [List.cons_append] at h
        obtain ⟨hx, h2⟩ := List.cons.inj h
        rw [List.cons_append, ih [] ws cur h2, hx]
    · rw [splL_next hd] at h
      rw [List.cons_append, splL_next hd]
      exact ih _ _ _ h
theorem splL_snoc_hit (b : UInt8) (s acc : List UInt8) : splL b acc (s ++ [b]) = splL b acc s ++ [[]] := by
  have := splL_append b s acc []
  rw [splL] at this
  exact this
/-- a byte of a word -/
def visB (c : UInt8) : Bool := decide (33 ≤ c.toNat) && decide (c.toNat ≤ 126)
def wordOk (w : List UInt8) : Bool := !w.isEmpty && w.all visB
/-- a line's words, if it is one -/
def lineF (l : List UInt8) : Option (List (List UInt8)) := if (splL 32 [] l).all wordOk = true then some (splL 32 [] l) else none
/-- the lines' words, if all are lines, and nothing stands behind the last one -/
def linesG : List (List UInt8) → Option (List (List (List UInt8)))
  | [] => none
  | [l] => if l = [] then some [] else none
  | l :: k :: r => match lineF l with
    | none => none
    | some w => (linesG (k :: r)).map (w :: ·)
def linesF (t : List UInt8) : Option (List (List (List UInt8))) := linesG (splL 10 [] t)
theorem linesG_cons {l : List UInt8} {r : List (List UInt8)} (h : r ≠ []) : linesG (l :: r) = match lineF l with
    | none => none
    | some w => (linesG r).map (w :: ·) := by
  cases r with
  | nil => exact absurd rfl h
  | cons k r => rfl
theorem splL_ne (b : UInt8) (acc s : List UInt8) : splL b acc s ≠ [] := by
  obtain ⟨p, l, _, h⟩ := splL_acc b s acc
  rw [h]; simp

/-- the program's way: within a line, words so far, and the one that is being read -/
def scanW : List (List UInt8) → List UInt8 → List UInt8 → Option (List (List (List UInt8)))
  | _, _, [] => none
  | ws, cur, c :: t => if visB c = true then scanW ws (cur ++ [c]) t
    else if cur = [] then none
    else if c = 32 then scanW (ws ++ [cur]) [] t
    else if c = 10 then (if t = [] then some [ws ++ [cur]] else (scanW [] [] t).map ((ws ++ [cur]) :: ·))
    else none
def scanL (s : List UInt8) : Option (List (List (List UInt8))) := if s = [] then some [] else scanW [] [] s
theorem scanW_line {ws : List (List UInt8)} {cur t : List UInt8} (h : cur ≠ []) : scanW ws cur (10 :: t) = (scanL t).map ((ws ++ [cur]) :: ·) := by
  rw [scanW, if_neg (by decide), if_neg h, if_neg (by decide), if_pos rfl]
  unfold scanL
  by_cases ht : t = []
  · rw [if_pos ht, if_pos ht]; rfl
  · rw [if_neg ht, if_neg ht]
theorem scanW_word {ws : List (List UInt8)} {cur t : List UInt8} (h : cur ≠ []) : scanW ws cur (32 :: t) = scanW (ws ++ [cur]) [] t := by
  rw [scanW, if_neg (by decide), if_neg h, if_pos rfl]
theorem scanW_vis {ws : List (List UInt8)} {cur t : List UInt8} {c : UInt8} (h : visB c = true) : scanW ws cur (c :: t) = scanW ws (cur ++ [c]) t := by
  rw [scanW, if_pos h]
theorem scanW_bad {ws : List (List UInt8)} {cur t : List UInt8} {c : UInt8} (h : visB c = false) (h2 : cur = [] ∨ (c ≠ 32 ∧ c ≠ 10)) : scanW ws cur (c :: t) = none := by
  rw [scanW, if_neg (by rw [h]; decide)]
  by_cases hc : cur = []
  · rw [if_pos hc]
  · rw [if_neg hc]
    obtain ⟨h3, h4⟩ := h2.resolve_left hc
    rw [if_neg h3, if_neg h4]

/-- what no byte behind can mend -/
def DeadL (acc : List UInt8) : Prop := ∀ r, (splL 32 [] (acc ++ r)).all wordOk = false
theorem DeadL.more {acc : List UInt8} (h : DeadL acc) (c : UInt8) : DeadL (acc ++ [c]) := fun r => by rw [List.append_assoc]; exact h _
theorem DeadL.ne {acc : List UInt8} (h : DeadL acc) : acc ≠ [] := by
  rintro rfl
  exact absurd (h [97]) (by decide)
theorem dead_lines : ∀ (s acc : List UInt8), DeadL acc → linesG (splL 10 acc s) = none := by
  intro s
  induction s with
  | nil => intro acc h; rw [splL]; show (if acc = [] then _ else _) = _; rw [if_neg h.ne]
  | cons c s ih =>
    intro acc h
    by_cases hc : c = 10
    · subst hc
      rw [splL_hit, linesG_cons (splL_ne _ _ _)]
      have : lineF acc = none := by
        unfold lineF
        rw [if_neg]
        have := h []
        rw [List.append_nil] at this
        rw [this]; decide
      rw [this]
    · rw [splL_next hc]; exact ih _ (h.more c)
/-- a part that is done is among the parts, whatever follows -/
theorem splL_mem {b : UInt8} {acc s : List UInt8} {ws : List (List UInt8)} {cur : List UInt8} (h : splL b acc s = ws ++ [cur]) : ∀ r, ∃ p l, splL b acc (s ++ r) = ws ++ (cur ++ p) :: l := by
  intro r
  induction r generalizing s ws cur with
  | nil => exact ⟨[], [], by rw [List.append_nil, h, List.append_nil]⟩
  | cons c r ih =>
    by_cases hc : c = b
    · subst hc
      rw [splL_append, h]
      exact ⟨[], splL c [] r, by rw [List.append_nil, List.append_assoc]; rfl⟩
    · have h1 := splL_snoc_other b hc s acc ws cur h
      obtain ⟨p, l, h2⟩ := ih h1
      refine ⟨c :: p, l, ?_⟩
      rw [show s ++ c :: r = (s ++ [c]) ++ r by simp, h2]
      simp
theorem dead_of {acc : List UInt8} {ws : List (List UInt8)} {cur : List UInt8} (h : splL 32 [] acc = ws ++ [cur]) (hb : (∃ c ∈ cur, visB c = false) ∨ (∃ w ∈ ws, wordOk w = false)) : DeadL acc := fun r => by
  obtain ⟨p, l, e⟩ := splL_mem h r
  rw [e, List.all_append, List.all_cons]
  rcases hb with ⟨c, hc, hv⟩ | ⟨w, hw, hv⟩
  · have : wordOk (cur ++ p) = false := by
      unfold wordOk
      rw [List.all_append, List.all_eq_false.2 ⟨c, hc, by rw [hv]; decide⟩]
      simp
    rw [this]; simp
  · rw [List.all_eq_false.2 ⟨w, hw, by rw [hv]; decide⟩]; rfl
theorem vis_ne {c : UInt8} (h : visB c = true) : c ≠ 32 ∧ c ≠ 10 := by
  constructor
  · rintro rfl; exact absurd h (by decide)
  · rintro rfl; exact absurd h (by decide)
/-- both ways lead to the same lines -/
theorem scan_lines : ∀ (n : Nat) (s acc : List UInt8) (ws : List (List UInt8)) (cur : List UInt8), s.length ≤ n → splL 32 [] acc = ws ++ [cur] → ws.all wordOk = true → cur.all visB = true → (acc ≠ [] ∨ s ≠ []) → linesG (splL 10 acc s) = scanW ws cur s := by
  intro n
  induction n with
  | zero =>
    intro s acc ws cur hn h hw hc hne
    obtain rfl := List.eq_nil_of_length_eq_zero (Nat.le_zero.1 hn)
    rw [splL, scanW]
    show (if acc = [] then _ else _) = _
    rw [if_neg (hne.resolve_right (by simp))]
  | succ n ih =>
    intro s acc ws cur hn h hw hcv hne
    cases s with
    | nil =>
      rw [splL, scanW]
      show (if acc = [] then _ else _) = _
      rw [if_neg (hne.resolve_right (by simp))]
    | cons c t =>
      simp only [List.length_cons] at hn
      cases hv : visB c with
      | true =>
        obtain ⟨h1, h2⟩ := vis_ne hv
        rw [splL_next h2, scanW_vis hv]
        exact ih t _ ws (cur ++ [c]) (by omega) (splL_snoc_other 32 h1 acc [] ws cur h) hw (by rw [List.all_append, hcv]; simp [hv]) (.inl (by simp))
      | false =>
        by_cases hcur : cur = []
        · rw [scanW_bad hv (.inl hcur)]
          subst hcur
          by_cases h10 : c = 10
          · subst h10
            rw [splL_hit, linesG_cons (splL_ne _ _ _)]
            have : lineF acc = none := by
              unfold lineF
              rw [if_neg]
              rw [h, List.all_append]; simp [wordOk]
            rw [this]
          · rw [splL_next h10]
            refine dead_lines t _ ?_
            by_cases h32 : c = 32
            · subst h32
              refine dead_of (ws := ws ++ [[]]) (cur := []) (by rw [splL_snoc_hit, h]) (.inr ⟨[], by simp, by decide⟩)
            · exact dead_of (splL_snoc_other 32 h32 acc [] ws [] h) (.inl ⟨c, by simp, hv⟩)
        · have hok : (ws ++ [cur]).all wordOk = true := by
            rw [List.all_append, hw]
            simp [wordOk, hcv, hcur]
          by_cases h10 : c = 10
          · subst h10
            rw [splL_hit, linesG_cons (splL_ne _ _ _), scanW_line hcur]
            have : lineF acc = some (ws ++ [cur]) := by unfold lineF; rw [h, if_pos hok]
            rw [this]
            simp only
            congr 1
            unfold scanL
            by_cases ht : t = []
            · subst ht; rw [if_pos rfl]; rfl
            · rw [if_neg ht]
              exact ih t [] [] [] (by omega) rfl rfl rfl (.inr ht)
          · by_cases h32 : c = 32
            · subst h32
              rw [splL_next h10, scanW_word hcur]
              exact ih t _ (ws ++ [cur]) [] (by omega) (by rw [splL_snoc_hit, h]) hok rfl (.inl (by simp))
            · rw [splL_next h10, scanW_bad hv (.inr ⟨h32, h10⟩)]
              exact dead_lines t _ (dead_of (splL_snoc_other 32 h32 acc [] ws cur h) (.inl ⟨c, by simp, hv⟩))
theorem lines_scan (t : List UInt8) : linesF t = scanL t := by
  unfold linesF scanL
  by_cases h : t = []
  · subst h; rfl
  · rw [if_neg h]; exact scan_lines _ t [] [] [] (Nat.le_refl _) rfl rfl rfl (.inr h)
end Go.Proofs.YthbnmehbhpakaaaGreatDoor
set_option autoImplicit false
set_option relaxedAutoImplicit false
set_option linter.unusedVariables false
set_option linter.unusedSimpArgs false
namespace Go.Proofs.YthbnmehbhpakaaaGreatDoor

def linesB (t : ByteArray) : Option (List (List ByteArray)) := (linesF t.data.toList).map fun l => l.map fun w => w.map mkB
/-- a text's lines of words, and what stands against them -/
def scanQ (most : Nat) (t : ByteArray) : List (List ByteArray) × Int := if most < t.size then ([], 25) else match linesB t with
  | none => ([], 22)
  | some l => (l, 0)
def packZ : Pack := ⟨⟨#[]⟩, ⟨0, 0, 0⟩, [], [], []⟩

/-! ### lines that were written -/
theorem linesF_line {l t : List UInt8} (h : (10 : UInt8) ∉ l) : linesF (l ++ 10 :: t) = match lineF l with
    | none => none
    | some w => (linesF t).map (w :: ·) := by
  unfold linesF
  rw [splL_part 10 l [] t h, List.nil_append, linesG_cons (splL_ne _ _ _)]
  all_goals (cases lineF l <;> rfl)
theorem lineF_one {w : List UInt8} (hw : wordOk w = true) (hn : (32 : UInt8) ∉ w) : lineF w = some [w] := by
  unfold lineF
  rw [splL_no 32 w [] hn, List.nil_append, List.all_cons, hw, if_pos (by rfl)]
/-! ### a range's text is words -/
/-! ### what is written is read -/
def GoodB (w : ByteArray) : Prop := w.data.toList ≠ [] ∧ ∀ c ∈ w.data.toList, visB c = true
theorem noblank {w : List UInt8} (h : ∀ c ∈ w, visB c = true) : (32 : UInt8) ∉ w ∧ (10 : UInt8) ∉ w := ⟨fun hm => absurd (h _ hm) (by decide), fun hm => absurd (h _ hm) (by decide)⟩
theorem wordOk_of {w : List UInt8} (h0 : w ≠ []) (h : ∀ c ∈ w, visB c = true) : wordOk w = true := by
  unfold wordOk
  rw [List.all_eq_true.2 h]
  cases w with
  | nil => exact absurd rfl h0
  | cons c w => rfl
end Go.Proofs.YthbnmehbhpakaaaGreatDoor
set_option autoImplicit false
set_option relaxedAutoImplicit false
set_option linter.unusedVariables false
set_option linter.unusedSimpArgs false
namespace Go.Proofs.YthbnmehbhpakaaaGreatDoor

/-! ### a package of one range, however it is written -/
end Go.Proofs.YthbnmehbhpakaaaGreatDoor
set_option autoImplicit false
set_option relaxedAutoImplicit false
set_option linter.unusedVariables false
set_option linter.unusedSimpArgs false
namespace Go.Proofs.YthbnmehbhpakaaaGreatDoor

end Go.Proofs.YthbnmehbhpakaaaGreatDoor
namespace Go.Proofs.YthbnmehbhpakaaaGreatDoor
open Go.ChangeShapes Go.WideShapes Go.ChangeAt Go.RowKit
set_option linter.unusedVariables false
set_option linter.unusedSimpArgs false

structure Mani where
  deps : List Dep
  dev : List Dep
  opts : List Dep
  over : List Dep
def rMani : Rp Mani where
  size := 4
  holds := fun w S x cs => ∃ s0 s1 s2 s3, cs = [s0, s1, s2, s3] ∧ SlV rDep w S x.deps s0 ∧ SlV rDep w S x.dev s1 ∧ SlV rDep w S x.opts s2 ∧ SlV rDep w S x.over s3
  len := fun ⟨s0, s1, s2, s3, h, c0, c1, c2, c3⟩ => by rw [h]; rfl
  one := fun ⟨s0, s1, s2, s3, h, c0, c1, c2, c3⟩ => by obtain ⟨_, _, rfl, _⟩ := c0.val; obtain ⟨_, _, rfl, _⟩ := c1.val; obtain ⟨_, _, rfl, _⟩ := c2.val; obtain ⟨_, _, rfl, _⟩ := c3.val; rw [h]; simp [Value.oneCell']
  mono := fun ⟨s0, s1, s2, s3, h, c0, c1, c2, c3⟩ hk => ⟨s0, s1, s2, s3, h, (rSlice rDep).mono c0 hk, (rSlice rDep).mono c1 hk, (rSlice rDep).mono c2 hk, (rSlice rDep).mono c3 hk⟩

def bkMani (x : Mani) : Nat := 1 + bkL bkDep x.deps + bkL bkDep x.dev + bkL bkDep x.opts + bkL bkDep x.over
set_option maxRecDepth 100000 in
theorem opensB_Mani : OpensB Tryz.prog 24 rMani bkMani := by
  intro H enc w base fuel cs x h
  obtain ⟨xs, n, rfl, rfl, hlen, hxl, hf⟩ := DataW.trod_struct Tryz.underlying24 h
  rw [show Tryz.prog.cellsOf 24 = 4 from by kernel_rfl] at hlen
  match cs, hlen with
  | [c0, c1, c2, c3], _ =>
    have k0 : Tryz.prog.cellsOf 22 = 1 := by kernel_rfl
    have f0 := hf 0 _ rfl
    have f1 := hf 1 _ rfl
    have f2 := hf 2 _ rfl
    have f3 := hf 3 _ rfl
    match xs, hxl with
    | [x0, x1, x2, x3], _ =>
      simp [k0] at f0 f1 f2 f3
      obtain ⟨y0, g0, b0⟩ := opensB_slice (e := 158) Tryz.underlying22 (r := rDep) (by kernel_rfl) (by decide) opensB_Dep H enc w base n [c0] x0 f0
      obtain ⟨y1, g1, b1⟩ := opensB_slice (e := 158) Tryz.underlying22 (r := rDep) (by kernel_rfl) (by decide) opensB_Dep H enc w base n [c1] x1 f1
      obtain ⟨y2, g2, b2⟩ := opensB_slice (e := 158) Tryz.underlying22 (r := rDep) (by kernel_rfl) (by decide) opensB_Dep H enc w base n [c2] x2 f2
      obtain ⟨y3, g3, b3⟩ := opensB_slice (e := 158) Tryz.underlying22 (r := rDep) (by kernel_rfl) (by decide) opensB_Dep H enc w base n [c3] x3 f3
      refine ⟨⟨y0, y1, y2, y3⟩, ⟨_, _, _, _, rfl, g0, g1, g2, g3⟩, ?_⟩
      simp only [bkMani, Rows.uptoBulk, Rows.uptoBulkAll, List.map_cons, List.map_nil] at *
      omega
end Go.Proofs.YthbnmehbhpakaaaGreatDoor
set_option autoImplicit false
set_option relaxedAutoImplicit false
set_option linter.unusedVariables false
set_option linter.unusedSimpArgs false
namespace Go.Proofs.YthbnmehbhpakaaaGreatDoor

def devW : ByteArray := ⟨#[100, 101, 118]⟩
def pinsW : ByteArray := ⟨#[112, 105, 110, 115]⟩
def projectW : ByteArray := ⟨#[112, 114, 111, 106, 101, 99, 116]⟩
def maniText (m : Mani) : ByteArray := projectW ++ nlB ++ linesD needsW m.deps ++ linesD devW m.dev ++ linesD likesW m.opts ++ linesD pinsW m.over
/-- may a manifest be -/
noncomputable def maniB (m : Mani) : Bool :=
  listB m.deps && (listB m.dev && (listB m.opts && (listB m.over && (nodupB (allNames [m.deps, m.dev, m.opts]) && decide ((maniText m).size ≤ 4096)))))
end Go.Proofs.YthbnmehbhpakaaaGreatDoor
set_option autoImplicit false
set_option relaxedAutoImplicit false
set_option linter.unusedVariables false
set_option linter.unusedSimpArgs false
namespace Go.Proofs.YthbnmehbhpakaaaGreatDoor

theorem nameC_slash {b : UInt8} (h : nameC b = true) : (b != 47) = true := by
  have H : ∀ b : UInt8, (!nameC b || (b != 47)) = true := all_bytes (by decide +kernel)
  have := H b
  rw [h] at this; simpa using this
theorem nameL_slash {l : List UInt8} (h : nameL l = true) : ∀ b ∈ l, (b != 47) = true := by
  cases l with
  | nil => intro b hb; cases hb
  | cons c t =>
    simp only [nameL, Bool.and_eq_true] at h
    intro b hb
    rcases List.mem_cons.1 hb with rfl | hb
    · exact nameC_slash (by unfold nameC; rw [h.1.1]; rfl)
    · exact nameC_slash (List.all_eq_true.1 h.1.2 b hb)
theorem joined_head : ∀ (t : List ByteArray), joined t = [] ∨ ∃ r, joined t = 47 :: r := by
  intro t
  cases t with
  | nil => exact .inl rfl
  | cons s t => exact .inr ⟨_, rfl⟩
theorem takeWhile_name {l r : List UInt8} (h : ∀ b ∈ l, (b != 47) = true) (hr : r = [] ∨ ∃ q, r = 47 :: q) : (l ++ r).takeWhile (· != 47) = l := by
  induction l with
  | nil =>
    rcases hr with rfl | ⟨q, rfl⟩
    · rfl
    · rfl
  | cons c l ih =>
    rw [List.cons_append, List.takeWhile_cons, if_pos (h c (by simp)), ih fun b hb => h b (by simp [hb])]
theorem joined_inj : ∀ {a b : List ByteArray}, a.all nameB = true → b.all nameB = true → joined a = joined b → a = b := by
  intro a
  induction a with
  | nil =>
    intro b _ _ h
    cases b with
    | nil => rfl
    | cons s t => cases h
  | cons s t ih =>
    intro b ha hb h
    cases b with
    | nil => cases h
    | cons u v =>
      rw [List.all_cons, Bool.and_eq_true] at ha hb
      rw [joined, joined, List.append_assoc, List.append_assoc] at h
      have h1 := List.append_cancel_left h
      have e1 := takeWhile_name (nameL_slash ha.1) (joined_head t)
      have e2 := takeWhile_name (nameL_slash hb.1) (joined_head v)
      rw [h1, e2] at e1
      rw [e1] at h1
      have h2 := List.append_cancel_left h1
      have hs : s = u := ByteArray.ext (Array.ext' e1.symm)
      rw [hs, ih ha.2 hb.2 h2]

/-- the path that a text is, if it is one that names lead through -/
noncomputable def pathOf (s : ByteArray) : Option (List ByteArray) :=
  @dite _ (∃ p : List ByteArray, p ≠ [] ∧ p.all nameB = true ∧ joined p = s.data.toList) (Classical.propDecidable _) (fun h => some h.choose) (fun _ => none)
theorem pathOf_some {s : ByteArray} {p : List ByteArray} (h0 : p ≠ []) (h1 : p.all nameB = true) (h2 : joined p = s.data.toList) : pathOf s = some p := by
  have h : ∃ p : List ByteArray, p ≠ [] ∧ p.all nameB = true ∧ joined p = s.data.toList := ⟨p, h0, h1, h2⟩
  unfold pathOf
  rw [dif_pos h]
  have hc := h.choose_spec
  exact congrArg some (joined_inj hc.2.1 h1 (hc.2.2.trans h2.symm))
theorem pathOf_none {s : ByteArray} (h : ∀ p : List ByteArray, p ≠ [] → p.all nameB = true → joined p ≠ s.data.toList) : pathOf s = none := by
  unfold pathOf
  rw [dif_neg]
  rintro ⟨p, h0, h1, h2⟩
  exact h p h0 h1 h2
theorem pathOf_spec {s : ByteArray} {p : List ByteArray} (h : pathOf s = some p) : p ≠ [] ∧ p.all nameB = true ∧ joined p = s.data.toList := by
  by_cases e : ∃ p : List ByteArray, p ≠ [] ∧ p.all nameB = true ∧ joined p = s.data.toList
  · obtain ⟨q, h0, h1, h2⟩ := e
    rw [pathOf_some h0 h1 h2] at h
    cases h
    exact ⟨h0, h1, h2⟩
  · rw [pathOf_none fun q h0 h1 h2 => e ⟨q, h0, h1, h2⟩] at h
    cases h
/-- a path's text again: the text of what a text is read as -/
theorem textB_pathOf {s : ByteArray} {p : List ByteArray} (h : pathOf s = some p) : textB p = s := by
  obtain ⟨h0, h1, h2⟩ := pathOf_spec h
  unfold textB
  rw [if_neg h0, if_pos h1]
  exact ByteArray.ext (Array.ext' h2)
end Go.Proofs.YthbnmehbhpakaaaGreatDoor
