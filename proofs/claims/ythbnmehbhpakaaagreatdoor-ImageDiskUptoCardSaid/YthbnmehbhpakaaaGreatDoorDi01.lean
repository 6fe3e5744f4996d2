/-
  Readings of cells as data, over any program: what is proved here is that a reading stays as long as the blocks that it meets stay.
  Rows of the call's own whose elements read as data: what append, new blocks and draws leave of them; over any program.
-/
import Derived.Below
import Derived.Calls
import Derived.Laws.AppendOwn
import Derived.Laws.OwnMore
import Derived.Deep.Draws
import Derived.WalkKit
import Derived.Deep.AppendLies
import Derived.Maps.AppendAt
namespace Go.Proofs.YthbnmehbhpakaaaGreatDoor
open Go.RowKit
set_option linter.unusedVariables false
set_option linter.unusedSimpArgs false

/-- a reading: how many cells, and when cells in a world read as a datum; 'S' tells which blocks may be met -/
structure Rp (α : Type) where
  size : Nat
  holds : World → (Nat → Prop) → α → List Value → Prop
  len : ∀ {w S x cs}, holds w S x cs → cs.length = size
  one : ∀ {w S x cs}, holds w S x cs → ∀ u ∈ cs, u.oneCell' = true
  mono : ∀ {w w' S S' x cs}, holds w S x cs → (∀ b, S b → b < w.heap.size → S' b ∧ w'.heap[b]? = w.heap[b]?) → holds w' S' x cs

/-- whole numbers of 64 bits -/
def I64 (n : Int) : Prop := -9223372036854775808 ≤ n ∧ n ≤ 9223372036854775807

def rInt : Rp Int where
  size := 1
  holds := fun _ _ x cs => cs = [.int .i64 x] ∧ I64 x
  len := fun h => by rw [h.1]; rfl
  one := fun h => by rw [h.1]; simp [Value.oneCell']
  mono := fun h _ => h

def rBool : Rp Bool where
  size := 1
  holds := fun _ _ x cs => cs = [.bool x]
  len := fun h => by rw [h]; rfl
  one := fun h => by rw [h]; simp [Value.oneCell']
  mono := fun h _ => h

def rStr : Rp ByteArray where
  size := 1
  holds := fun _ _ x cs => cs = [.string x] ∧ x.size ≤ maxLen
  len := fun h => by rw [h.1]; rfl
  one := fun h => by rw [h.1]; simp [Value.oneCell']
  mono := fun h _ => h

theorem cell_same {w w' : World} {b : Nat} (h : w'.heap[b]? = w.heap[b]?) (o : Nat) (s : Option Nat) : w'.cell? ⟨b, o, s⟩ = w.cell? ⟨b, o, s⟩ := by
  simp [World.cell?, h]
theorem frozen_same {w w' : World} {b : Nat} (h : w'.heap[b]? = w.heap[b]?) (o : Nat) (s : Option Nat) : w'.frozen? ⟨b, o, s⟩ = w.frozen? ⟨b, o, s⟩ := by
  simp [World.frozen?, h]
theorem cell_lt {w : World} {b o : Nat} {v : Value} (h : w.cell? ⟨b, o, none⟩ = some v) : b < w.heap.size := World.block_lt_of_cell? w _ h

/-- the cells of a row of data, from a place on -/
def Row {α : Type} (r : Rp α) (w : World) (S : Nat → Prop) (b o : Nat) (l : List α) : Prop :=
  S b ∧ b < w.heap.size ∧ ∀ (i : Nat) (x : α), l[i]? = some x → ∃ cs, r.holds w S x cs ∧ ∀ (j : Nat) (u : Value), cs[j]? = some u → w.cell? ⟨b, o + i * r.size + j, none⟩ = some u

theorem Row.mono {α : Type} {r : Rp α} {w w' : World} {S S' : Nat → Prop} {b o : Nat} {l : List α} (h : Row r w S b o l)
    (hk : ∀ b, S b → b < w.heap.size → S' b ∧ w'.heap[b]? = w.heap[b]?) : Row r w' S' b o l := by
  obtain ⟨h1, h2, h3⟩ := h
  have hb := hk b h1 h2
  have hlt : b < w'.heap.size := by
    have : w.heap[b]? = some w.heap[b] := Array.getElem?_eq_getElem h2
    rw [this] at hb
    exact (Array.getElem?_eq_some_iff.1 hb.2).1
  refine ⟨hb.1, hlt, fun i x hx => ?_⟩
  obtain ⟨cs, hc, hcell⟩ := h3 i x hx
  exact ⟨cs, r.mono hc hk, fun j u hu => (cell_same hb.2 _ _).trans (hcell j u hu)⟩

def rSlice {α : Type} (r : Rp α) : Rp (List α) where
  size := 1
  holds := fun w S l cs => ∃ (A : Option Addr) (c : Nat), cs = [.slice A l.length c] ∧ l.length ≤ c ∧ c ≤ maxLen ∧ (A = none → c = 0) ∧
    (0 < l.length → ∃ b o, A = some ⟨b, o, none⟩ ∧ Row r w S b o l)
  len := fun ⟨_, _, h, _⟩ => by rw [h]; rfl
  one := fun ⟨_, _, h, _⟩ => by rw [h]; simp [Value.oneCell']
  mono := fun ⟨A, c, h1, h2, h3, h4, h5⟩ hk => ⟨A, c, h1, h2, h3, h4, fun hn => by
    obtain ⟨b, o, hA, hr⟩ := h5 hn
    exact ⟨b, o, hA, hr.mono hk⟩⟩

/-- one more name for a slice's reading: its value -/
def SlV {α : Type} (r : Rp α) (w : World) (S : Nat → Prop) (l : List α) (v : Value) : Prop := (rSlice r).holds w S l [v]

section
variable {α : Type} {r : Rp α} {w w' : World} {S S' : Nat → Prop} {l : List α} {A : Option Addr} {n c : Nat}

theorem SlV.nil_ (r : Rp α) (w : World) (S : Nat → Prop) : SlV r w S [] (.slice none 0 0) :=
  ⟨none, 0, rfl, by simp, by simp [maxLen], fun _ => rfl, fun h => absurd h (by simp)⟩

theorem SlV.val {v : Value} (h : SlV r w S l v) : ∃ A c, v = .slice A l.length c ∧ l.length ≤ c ∧ c ≤ maxLen := by
  obtain ⟨A, c, h1, h2, h3, _⟩ := h
  exact ⟨A, c, by simpa using h1, h2, h3⟩

/-- an element: where it lies -/
theorem SlV.elem (h : SlV r w S l (.slice A n c)) {i : Nat} {x : α} (hx : l[i]? = some x) :
    ∃ b o cs, A = some ⟨b, o, none⟩ ∧ S b ∧ b < w.heap.size ∧ r.holds w S x cs ∧ ∀ (j : Nat) (u : Value), cs[j]? = some u → w.cell? ⟨b, o + i * r.size + j, none⟩ = some u := by
  obtain ⟨A', c', h1, h2, h3, _, h5⟩ := h
  simp only [List.cons.injEq, Value.slice.injEq, and_true] at h1
  obtain ⟨rfl, _, rfl⟩ := h1
  have hlt : i < l.length := (List.getElem?_eq_some_iff.1 hx).1
  obtain ⟨b, o, hA, hS, hb, hr⟩ := h5 (by omega)
  obtain ⟨cs, hc, hcell⟩ := hr i x hx
  exact ⟨b, o, cs, hA, hS, hb, hc, hcell⟩

theorem SlV.n_eq (h : SlV r w S l (.slice A n c)) : n = l.length := by
  obtain ⟨A', c', h1, _⟩ := h
  simp only [List.cons.injEq, Value.slice.injEq, and_true] at h1
  exact h1.2.1
theorem SlV.cap_le (h : SlV r w S l (.slice A n c)) : l.length ≤ c ∧ c ≤ maxLen := by
  obtain ⟨A', c', h1, h2, h3, _⟩ := h
  simp only [List.cons.injEq, Value.slice.injEq, and_true] at h1
  obtain ⟨_, _, rfl⟩ := h1
  exact ⟨h2, h3⟩
theorem SlV.none_ (h : SlV r w S l (.slice none n c)) : l = [] ∧ c = 0 := by
  obtain ⟨A', c', h1, h2, h3, h4, _⟩ := h
  simp only [List.cons.injEq, Value.slice.injEq, and_true] at h1
  obtain ⟨rfl, _, rfl⟩ := h1
  have := h4 rfl
  exact ⟨List.eq_nil_of_length_eq_zero (by omega), this⟩

/-- what stays as it was, stays read -/
theorem Rp.keep {x : α} {cs : List Value} (h : r.holds w S x cs) (hk : ∀ b, S b → b < w.heap.size → w'.heap[b]? = w.heap[b]?) : r.holds w' S x cs :=
  r.mono h fun b hb hl => ⟨hb, hk b hb hl⟩
theorem Rp.more {x : α} {cs : List Value} (h : r.holds w S x cs) (hk : ∀ b, S b → b < w.heap.size → S' b) : r.holds w S' x cs :=
  r.mono h fun b hb hl => ⟨hk b hb hl, rfl⟩
theorem Rp.below {B : Nat} {x : α} {cs : List Value} (h : r.holds w S x cs) (hb : Below B w w') (hS : ∀ b, S b → b < B) : r.holds w' S x cs :=
  Rp.keep h fun b hs _ => hb.block b (hS b hs)
theorem Rp.belowSize {x : α} {cs : List Value} (h : r.holds w S x cs) (hb : Below w.heap.size w w') : r.holds w' S x cs :=
  Rp.keep h fun b _ hl => hb.block b hl
theorem Rp.drew {x : α} {cs : List Value} (h : r.holds w S x cs) : r.holds w.drew S x cs := Rp.keep h fun _ _ _ => rfl
theorem Rp.drewN {x : α} {cs : List Value} (h : r.holds w S x cs) (k : Nat) : r.holds (w.drewN k) S x cs := Rp.keep h fun _ _ _ => rfl
theorem Rp.alloc {x : α} {cs : List Value} (h : r.holds w S x cs) (o : Obj) : r.holds (w.alloc o) S x cs :=
  Rp.keep h fun b _ hl => Below.heap_alloc w o b hl
theorem SlV.keep {v : Value} (h : SlV r w S l v) (hk : ∀ b, S b → b < w.heap.size → w'.heap[b]? = w.heap[b]?) : SlV r w' S l v := Rp.keep h hk
theorem SlV.more {v : Value} (h : SlV r w S l v) (hk : ∀ b, S b → b < w.heap.size → S' b) : SlV r w S' l v := Rp.more h hk
theorem SlV.below {B : Nat} {v : Value} (h : SlV r w S l v) (hb : Below B w w') (hS : ∀ b, S b → b < B) : SlV r w' S l v := Rp.below h hb hS
theorem SlV.belowSize {v : Value} (h : SlV r w S l v) (hb : Below w.heap.size w w') : SlV r w' S l v := Rp.belowSize h hb
theorem SlV.drew {v : Value} (h : SlV r w S l v) : SlV r w.drew S l v := Rp.drew h
theorem SlV.drewN {v : Value} (h : SlV r w S l v) (k : Nat) : SlV r (w.drewN k) S l v := Rp.drewN h k
theorem SlV.alloc {v : Value} (h : SlV r w S l v) (o : Obj) : SlV r (w.alloc o) S l v := Rp.alloc h o
end
end Go.Proofs.YthbnmehbhpakaaaGreatDoor
namespace Go.Proofs.YthbnmehbhpakaaaGreatDoor
open Go.RowKit
set_option linter.unusedVariables false
set_option linter.unusedSimpArgs false

theorem below_cell {B : Nat} {w w' : World} (h : Below B w w') {b o : Nat} {v : Value} (hc : w.cell? ⟨b, o, none⟩ = some v) (hb : b < B) : w'.cell? ⟨b, o, none⟩ = some v :=
  (h.cell (p := ⟨b, o, none⟩) hb).trans hc

/-- an element type's row of the table -/
def Elt (P : Program) (e : TypeId) (size bytes : Nat) : Prop :=
  ∃ (i : TypeInfo) (z : Value), P.info? e = some i ∧ i.zero = some z ∧ i.size = size ∧ i.bytes = bytes ∧ z.cells.size = size ∧ 0 < size
theorem Elt.mk' {P : Program} {e : TypeId} {z : Value} {size bytes : Nat} (h : (P.info? e).map (fun i => (i.zero, i.size, i.bytes)) = some (some z, size, bytes)) (hz : z.cells.size = size) (hs : 0 < size) : Elt P e size bytes := by
  obtain ⟨i, h1, h2, h3, h4⟩ := info_parts h
  exact ⟨i, z, h1, h2, h3, h4, hz, hs⟩

def Elems {α : Type} (r : Rp α) (w : World) (S : Nat → Prop) : List α → List Value → Prop
  | [], xs => xs = []
  | x :: l, xs => ∃ cs rest, xs = cs ++ rest ∧ r.holds w S x cs ∧ Elems r w S l rest

section
variable {α : Type} {r : Rp α} {w w' : World} {S S' : Nat → Prop} {l : List α} {xs : List Value}
theorem Elems.mono (hk : ∀ b, S b → b < w.heap.size → S' b ∧ w'.heap[b]? = w.heap[b]?) : ∀ {l : List α} {xs : List Value}, Elems r w S l xs → Elems r w' S' l xs := by
  intro l
  induction l with
  | nil => intro xs h; exact h
  | cons x l ih => intro xs h; obtain ⟨cs, rest, h1, h2, h3⟩ := h; exact ⟨cs, rest, h1, r.mono h2 hk, ih h3⟩
theorem Elems.length : ∀ {l : List α} {xs : List Value}, Elems r w S l xs → xs.length = l.length * r.size := by
  intro l
  induction l with
  | nil => intro xs h; rw [show xs = [] from h]; simp
  | cons x l ih =>
    intro xs h
    obtain ⟨cs, rest, h1, h2, h3⟩ := h
    rw [h1, List.length_append, r.len h2, ih h3, List.length_cons, Nat.succ_mul, Nat.add_comm]
theorem Elems.append {k : List α} {ys : List Value} (hk : Elems r w S k ys) : ∀ {l : List α} {xs : List Value}, Elems r w S l xs → Elems r w S (l ++ k) (xs ++ ys) := by
  intro l
  induction l with
  | nil => intro xs h; rw [show xs = [] from h]; exact hk
  | cons x l ih => intro xs h; obtain ⟨cs, rest, h1, h2, h3⟩ := h; exact ⟨cs, rest ++ ys, by rw [h1, List.append_assoc], h2, ih h3⟩
theorem Elems.one_ {x : α} {cs : List Value} (h : r.holds w S x cs) : Elems r w S [x] cs := ⟨cs, [], by simp, h, rfl⟩
theorem Elems.get : ∀ {l : List α} {xs : List Value}, Elems r w S l xs → ∀ (i : Nat) (x : α), l[i]? = some x → ∃ cs, r.holds w S x cs ∧ ∀ (j : Nat) (u : Value), cs[j]? = some u → xs[i * r.size + j]? = some u := by
  intro l
  induction l with
  | nil => intro xs _ i x hx; simp at hx
  | cons y l ih =>
    intro xs h i x hx
    obtain ⟨cs, rest, h1, h2, h3⟩ := h
    have hl := r.len h2
    cases i with
    | zero =>
      simp only [List.getElem?_cons_zero, Option.some.injEq] at hx
      subst hx
      refine ⟨cs, h2, fun j u hu => ?_⟩
      have : j < cs.length := (List.getElem?_eq_some_iff.1 hu).1
      rw [h1, Nat.zero_mul, Nat.zero_add, List.getElem?_append_left this, hu]
    | succ i =>
      simp only [List.getElem?_cons_succ] at hx
      obtain ⟨cs', h4, h5⟩ := ih h3 i x hx
      refine ⟨cs', h4, fun j u hu => ?_⟩
      rw [h1, List.getElem?_append_right (by rw [hl, Nat.succ_mul]; omega), hl, show (i + 1) * r.size + j - r.size = i * r.size + j from by rw [Nat.succ_mul]; omega]
      exact h5 j u hu
theorem Elems.one_cell : ∀ {l : List α} {xs : List Value}, Elems r w S l xs → ∀ u ∈ xs, u.oneCell' = true := by
  intro l
  induction l with
  | nil => intro xs h; rw [show xs = [] from h]; simp
  | cons x l ih =>
    intro xs h u hu
    obtain ⟨cs, rest, h1, h2, h3⟩ := h
    rw [h1, List.mem_append] at hu
    rcases hu with hu | hu
    · exact r.one h2 u hu
    · exact ih h3 u hu

/-- a row of the call's own from block 'base' on, whose elements read as l in the blocks S, the row's own block not among them -/
def Own (r : Rp α) (w : World) (base : Nat) (e : TypeId) (v : Value) (l : List α) (S : Nat → Prop) : Prop :=
  (∀ b, S b → b < w.heap.size ∧ v.ownBlock ≠ some b) ∧ ∃ xs, w.ownsRow base e r.size v l.length xs ∧ Elems r w S l xs

variable {base : Nat} {e : TypeId} {v : Value}
theorem Own.nil_ (r : Rp α) (w : World) (base : Nat) (e : TypeId) (hS : ∀ b, S b → b < w.heap.size) : Own r w base e (.slice none 0 0) [] S :=
  ⟨fun b hb => ⟨hS b hb, by simp [Value.ownBlock]⟩, [], World.ownsRow_nil _ _ _ _, rfl⟩
theorem Own.lt (h : Own r w base e v l S) : ∀ k, v.ownBlock = some k → base ≤ k ∧ k < w.heap.size := by
  obtain ⟨_, xs, h1, _⟩ := h
  exact h1.lt
theorem Own.grown {row : Option Nat} (h : Own r w base e v l S) (hg : w.grownBy w' row) (hne : v.ownBlock = none ∨ v.ownBlock ≠ row) (hS : ∀ b, S b → some b ≠ row) : Own r w' base e v l S := by
  obtain ⟨h0, xs, h1, h2⟩ := h
  exact ⟨fun b hb => ⟨Nat.lt_of_lt_of_le (h0 b hb).1 hg.size, (h0 b hb).2⟩, xs, h1.kept hg hne, h2.mono fun b hb hl => ⟨hb, hg.block b hl (hS b hb)⟩⟩
theorem Own.keep (h : Own r w base e v l S) (hb : Below w.heap.size w w') : Own r w' base e v l S :=
  h.grown (row := none) ⟨hb.os, hb.tape, hb.output, hb.size, fun k hk _ => hb.block k hk⟩ (by cases hv : v.ownBlock <;> simp) (fun b _ => by simp)
theorem Own.alloc (h : Own r w base e v l S) (o : Obj) : Own r (w.alloc o) base e v l S := h.keep ((Below.refl _ _).alloc (Nat.le_refl _) o)
theorem Own.drew (h : Own r w base e v l S) : Own r w.drew base e v l S := h.keep (Below.refl _ _).drew
theorem Own.drewN (h : Own r w base e v l S) (n : Nat) : Own r (w.drewN n) base e v l S := h.keep ⟨rfl, rfl, rfl, Nat.le_refl _, fun _ _ => rfl⟩
theorem Own.more (h : Own r w base e v l S) (hS : ∀ b, S' b → b < w.heap.size ∧ v.ownBlock ≠ some b) (hSS : ∀ b, S b → S' b) : Own r w base e v l S' := by
  obtain ⟨h0, xs, h1, h2⟩ := h
  exact ⟨hS, xs, h1, h2.mono fun b hb _ => ⟨hSS b hb, rfl⟩⟩
theorem Own.slv (h : Own r w base e v l S) : SlV r w (fun b => S b ∨ base ≤ b) l v := by
  obtain ⟨h0, xs, h1, h2⟩ := h
  have h1' := h1
  rcases h1.2 with ⟨rfl, hn⟩ | ⟨g, cap, cur, rfl, hb, hg, hnc, hcm, hsz, htake⟩
  · have : l = [] := List.eq_nil_of_length_eq_zero hn
    subst this
    exact SlV.nil_ _ _ _
  · refine ⟨some ⟨g, 0, none⟩, cap, rfl, hnc, hcm, (fun h => by cases h), fun _ => ⟨g, 0, rfl, .inr hb, (Array.getElem?_eq_some_iff.1 hg).1, fun i x hx => ?_⟩⟩
    obtain ⟨cs, hc, hcell⟩ := h2.get i x hx
    refine ⟨cs, r.mono hc fun b hb _ => ⟨.inl hb, rfl⟩, fun j u hu => ?_⟩
    have h3 := h1'.cells (g := g) rfl _ u (hcell j u hu)
    have hadd : ∀ k, (⟨g, 0, none⟩ : Addr).add k = ⟨g, k, none⟩ := fun k => by unfold Addr.add; split <;> simp_all
    rw [hadd] at h3
    rw [Nat.zero_add]
    exact h3

section
variable {P : Program} {ops : Array Oper} {o : Oper} {a : Act} {K : Act → World → Prop} {Q : Exit → Act → World → Prop} {bytes : Nat}

theorem wp_push (hgd : o.guard = none) (s x : Operand) (t : TypeId) (ho : o.op = .call { callee := .builtin .append, args := #[s, x], argTypes := #[t, t] })
    (E : Elt P e r.size bytes) (ht : P.underlying t = some (.slice e)) (hs : a.eval s = v) (hown : Own r w base e v l S)
    (ad : Addr) (c : Nat) (cs : List Value) (y : α) (hx : a.eval x = .slice (some ad) 1 c) (hy : r.holds w S y cs) (hnews : ∀ j u, cs[j]? = some u → w.cell? (ad.add j) = some u)
    (h63 : l.length + 1 ≤ maxLen) (hbytes : (l.length + 1) * bytes ≤ 140737488355328) (hbase : base ≤ w.heap.size) (H : Nat) (hH : w.heap.size = H)
    (h : ∀ g cap w', Own r w' base e (.slice (some ⟨g, 0, none⟩) (l.length + 1) cap) (l ++ [y]) S → w.grownBy w' v.ownBlock → (v.ownBlock = some g ∨ g = H) → g < w'.heap.size → K (a.put o.dst (.slice (some ⟨g, 0, none⟩) (l.length + 1) cap)) w') :
    o.wp P a w K Q := by
  obtain ⟨i, z, hi, hz, hsz, hby, hzs, hpos⟩ := E
  obtain ⟨h0, xs, h1, h2⟩ := hown
  refine wp_append_lies w s x t ho base e i z r.size bytes ht hi hz hsz hby hzs hpos v l.length xs hs h1 ad 1 c cs hx (by rw [r.len hy, Nat.one_mul]) hnews (r.one hy) (by omega) h63 hbytes hbase H hH ?_
  intro g cap w' hown' hgrow hat hlt
  have hSk : ∀ b, S b → b < w.heap.size → S b ∧ w'.heap[b]? = w.heap[b]? := fun b hb hl => ⟨hb, hgrow.block b hl (Ne.symm (h0 b hb).2)⟩
  refine h g cap w' ⟨fun b hb => ⟨Nat.lt_of_lt_of_le (h0 b hb).1 hgrow.size, ?_⟩, xs ++ cs, by simpa using hown', Elems.append (Elems.one_ (r.mono hy hSk)) (h2.mono hSk)⟩ hgrow hat hlt
  intro he
  have hgb : g = b := by simpa [Value.ownBlock] using he
  subst hgb
  rcases hat with hat | hat
  · exact (h0 g hb).2 hat
  · have := (h0 g hb).1; omega

/-- the step law, for a region that draws its order -/
theorem step_push {E' : Prop} (hgd : o.guard = none) (s x : Operand) (t : TypeId) (ho : o.op = .call { callee := .builtin .append, args := #[s, x], argTypes := #[t, t] })
    (E : Elt P e r.size bytes) (ht : P.underlying t = some (.slice e)) (hs : a.eval s = v) (hown : Own r w base e v l S)
    (ad : Addr) (c : Nat) (cs : List Value) (y : α) (hx : a.eval x = .slice (some ad) 1 c) (hy : r.holds w S y cs) (hnews : ∀ j u, cs[j]? = some u → w.cell? (ad.add j) = some u)
    (h63 : l.length + 1 ≤ maxLen) (hbytes : (l.length + 1) * bytes ≤ 140737488355328) (hbase : base ≤ w.heap.size) (H : Nat) (hH : w.heap.size = H)
    (h : ∀ g cap w', Own r w' base e (.slice (some ⟨g, 0, none⟩) (l.length + 1) cap) (l ++ [y]) S → w.grownBy w' v.ownBlock → (v.ownBlock = some g ∨ g = H) → g < w'.heap.size → K (a.put o.dst (.slice (some ⟨g, 0, none⟩) (l.length + 1) cap)) w') :
    if Region.wanted o (yielded ops a.tmps) = true then Oper.wp P o a w K Q else E' := by
  have hw : Region.wanted o (yielded ops a.tmps) = true := by simp [Region.wanted, hgd]
  rw [if_pos hw]
  exact wp_push hgd s x t ho E ht hs hown ad c cs y hx hy hnews h63 hbytes hbase H hH h

/-- the same, in a plain region -/
theorem wpList_push {rest : List Oper} (hgd : o.guard = none) (s x : Operand) (t : TypeId) (ho : o.op = .call { callee := .builtin .append, args := #[s, x], argTypes := #[t, t] })
    (E : Elt P e r.size bytes) (ht : P.underlying t = some (.slice e)) (hs : a.eval s = v) (hown : Own r w base e v l S)
    (ad : Addr) (c : Nat) (cs : List Value) (y : α) (hx : a.eval x = .slice (some ad) 1 c) (hy : r.holds w S y cs) (hnews : ∀ j u, cs[j]? = some u → w.cell? (ad.add j) = some u)
    (h63 : l.length + 1 ≤ maxLen) (hbytes : (l.length + 1) * bytes ≤ 140737488355328) (hbase : base ≤ w.heap.size) (H : Nat) (hH : w.heap.size = H)
    (h : ∀ g cap w', Own r w' base e (.slice (some ⟨g, 0, none⟩) (l.length + 1) cap) (l ++ [y]) S → w.grownBy w' v.ownBlock → (v.ownBlock = some g ∨ g = H) → g < w'.heap.size → wpList P ops Q rest (a.put o.dst (.slice (some ⟨g, 0, none⟩) (l.length + 1) cap)) w') :
    wpList P ops Q (o :: rest) a w :=
  wpList_plain hgd fun _ hK => wp_push hgd s x t ho E ht hs hown ad c cs y hx hy hnews h63 hbytes hbase H hH fun g cap w' h1 h2 h3 h4 => hK _ _ (h g cap w' h1 h2 h3 h4)
end

/-- the cells of a slice that is read, one behind the other -/
theorem Elems.of_cells (w : World) (S : Nat → Prop) (b : Nat) : ∀ (k : List α) (o : Nat), (∀ (i : Nat) (x : α), k[i]? = some x → ∃ cs, r.holds w S x cs ∧ ∀ (j : Nat) (u : Value), cs[j]? = some u → w.cell? ⟨b, o + i * r.size + j, none⟩ = some u) →
    ∃ news, Elems r w S k news ∧ ∀ (j : Nat) (u : Value), news[j]? = some u → w.cell? ⟨b, o + j, none⟩ = some u := by
  intro k
  induction k with
  | nil => intro o _; exact ⟨[], rfl, by simp⟩
  | cons x k ih =>
    intro o h
    obtain ⟨cs, h1, h2⟩ := h 0 x rfl
    obtain ⟨rest, h3, h4⟩ := ih (o + r.size) (fun i y hy => by
      obtain ⟨cs', h5, h6⟩ := h (i + 1) y hy
      refine ⟨cs', h5, fun j u hu => ?_⟩
      have := h6 j u hu
      rw [Nat.succ_mul] at this
      rw [show o + r.size + i * r.size + j = o + (i * r.size + r.size) + j from by omega]
      exact this)
    refine ⟨cs ++ rest, ⟨cs, rest, rfl, h1, h3⟩, fun j u hu => ?_⟩
    have hl := r.len h1
    by_cases hj : j < cs.length
    · rw [List.getElem?_append_left hj] at hu
      simpa using h2 j u hu
    · rw [List.getElem?_append_right (by omega), hl] at hu
      have := h4 _ _ hu
      rw [show o + r.size + (j - r.size) = o + j from by omega] at this
      exact this
theorem add_lit' (b o j : Nat) : (⟨b, o, none⟩ : Addr).add j = ⟨b, o + j, none⟩ := by unfold Addr.add; split <;> simp_all

/-- a slice over a whole block whose cells are known -/
theorem SlV.of_block {g : Nat} {cs : Array Value} {t : TypeId} {fr : Nat × Nat} (hh : w.heap[g]? = some (.cells cs t fr)) (hE : Elems r w S l cs.toList) (hS : S g) {n c : Nat} (hn : n = l.length) (hc : l.length ≤ c) (hm : c ≤ maxLen) :
    SlV r w S l (.slice (some ⟨g, 0, none⟩) n c) := by
  subst hn
  refine ⟨some ⟨g, 0, none⟩, c, rfl, hc, hm, (fun h => by cases h), fun _ => ⟨g, 0, rfl, hS, (Array.getElem?_eq_some_iff.1 hh).1, fun i x hx => ?_⟩⟩
  obtain ⟨cs', h1, h2⟩ := hE.get i x hx
  refine ⟨cs', h1, fun j u hu => ?_⟩
  rw [cell_of_row w g _ cs t fr hh, Nat.zero_add]
  simpa using h2 j u hu
theorem heap_new (w : World) (o : Obj) : (w.alloc o).heap[w.heap.size]? = some o := heap_alloc_new w o

/-- append of a whole slice that is read: onto a row of the call's own -/
theorem run_extend {P : Program} {t ty : TypeId} {bytes : Nat} (E : Elt P e r.size bytes) (ht : P.underlying t = some (.slice e)) (hown : Own r w base e v l S)
    {T : Nat → Prop} {k : List α} {A : Option Addr} {m c : Nat} (hx : SlV r w T k (.slice A m c)) (hT : ∀ b, T b → v.ownBlock ≠ some b)
    (h63 : l.length + k.length ≤ maxLen) (hbytes : (l.length + k.length) * bytes ≤ 140737488355328) (hbase : base ≤ w.heap.size) :
    ∃ v' w', (Builtin.append_ #[t, t] ty #[v, .slice A m c]).run P w = .ok v' w' ∧ Own r w' base e v' (l ++ k) (fun b => S b ∨ (T b ∧ b < w.heap.size)) ∧ w.grownBy w' v.ownBlock ∧ (v'.ownBlock = v.ownBlock ∨ v'.ownBlock = some w.heap.size) := by
  obtain ⟨i, z, hi, hz, hsz, hby, hzs, hpos⟩ := E
  obtain ⟨h0, xs, h1, h2⟩ := hown
  have hm := hx.n_eq
  rcases A with _ | ad
  · obtain ⟨rfl, rfl⟩ := hx.none_
    simp only [List.length_nil] at hm
    subst hm
    refine ⟨v, w, ?_, ⟨fun b hb => by rcases hb with hb | hb; exact h0 b hb; exact ⟨hb.2, hT b hb.1⟩, xs, by simpa using h1, by rw [List.append_nil]; exact h2.mono fun b hb _ => ⟨.inl hb, rfl⟩⟩, ⟨rfl, rfl, rfl, Nat.le_refl _, fun _ _ _ => rfl⟩, .inl rfl⟩
    rcases h1.2 with ⟨rfl, _⟩ | ⟨g, cap, cur, rfl, _, _, hnc, _⟩
    · simp [Builtin.append_, run_underlying ht, sizeOf, typeInfo, hi, Builtin.lenOf, Builtin.firstCells]
    · simp [Builtin.append_, run_underlying ht, sizeOf, typeInfo, hi, Builtin.lenOf, Builtin.firstCells, hnc, storeCells]
  · obtain ⟨news, hnews, hcells⟩ : ∃ news, Elems r w T k news ∧ ∀ (j : Nat) (u : Value), news[j]? = some u → w.cell? (ad.add j) = some u := by
      rcases Nat.eq_zero_or_pos k.length with h | h
      · have : k = [] := List.eq_nil_of_length_eq_zero h
        subst this
        exact ⟨[], rfl, by simp⟩
      · obtain ⟨A', c', g1, g2, g3, g4, g5⟩ := hx
        simp only [List.cons.injEq, Value.slice.injEq, and_true] at g1
        obtain ⟨b, o, hA, hr⟩ := g5 h
        rw [← g1.1] at hA
        injection hA with hA
        subst hA
        obtain ⟨news, q1, q2⟩ := Elems.of_cells w T b k o hr.2.2
        exact ⟨news, q1, fun j u hu => by rw [add_lit']; exact q2 j u hu⟩
    obtain ⟨v', w', hr, hown', hgrow, _, hat⟩ := run_append_own_at (P := P) w base t ty e i z r.size bytes ht hi hz hsz hby hzs hpos v l.length xs h1 ad m c news (by rw [hnews.length, hm]) hcells hnews.one_cell (by omega) (by rw [hm]; exact hbytes) hbase
    have hSk : ∀ b, S b → b < w.heap.size → (S b ∨ (T b ∧ b < w.heap.size)) ∧ w'.heap[b]? = w.heap[b]? := fun b hb hl => ⟨.inl hb, hgrow.block b hl (Ne.symm (h0 b hb).2)⟩
    have hTk : ∀ b, T b → b < w.heap.size → (S b ∨ (T b ∧ b < w.heap.size)) ∧ w'.heap[b]? = w.heap[b]? := fun b hb hl => ⟨.inr ⟨hb, hl⟩, hgrow.block b hl (Ne.symm (hT b hb))⟩
    refine ⟨v', w', hr, ⟨fun b hb => ?_, xs ++ news, by rw [List.length_append, ← hm]; exact hown', Elems.append (hnews.mono hTk) (h2.mono hSk)⟩, hgrow, hat⟩
    have hbl : b < w.heap.size := by rcases hb with hb | hb; exact (h0 b hb).1; exact hb.2
    refine ⟨Nat.lt_of_lt_of_le hbl hgrow.size, ?_⟩
    rcases hat with hat | hat <;> rw [hat]
    · rcases hb with hb | hb
      · exact (h0 b hb).2
      · exact hT b hb.1
    · intro he
      injection he with he
      omega

section
variable {P : Program} {ops : Array Oper} {o : Oper} {a : Act} {K : Act → World → Prop} {Q : Exit → Act → World → Prop} {bytes : Nat}
theorem wp_extend (hgd : o.guard = none) (s x : Operand) (t : TypeId) (ho : o.op = .call { callee := .builtin .append, args := #[s, x], argTypes := #[t, t] })
    (E : Elt P e r.size bytes) (ht : P.underlying t = some (.slice e)) (hs : a.eval s = v) (hown : Own r w base e v l S)
    (T : Nat → Prop) (k : List α) (A : Option Addr) (m c : Nat) (hxv : a.eval x = .slice A m c) (hx : SlV r w T k (.slice A m c)) (hT : ∀ b, T b → v.ownBlock ≠ some b)
    (h63 : l.length + k.length ≤ maxLen) (hbytes : (l.length + k.length) * bytes ≤ 140737488355328) (hbase : base ≤ w.heap.size)
    (h : ∀ v' w', Own r w' base e v' (l ++ k) (fun b => S b ∨ (T b ∧ b < w.heap.size)) → w.grownBy w' v.ownBlock → (v'.ownBlock = v.ownBlock ∨ v'.ownBlock = some w.heap.size) → K (a.put o.dst v') w') : o.wp P a w K Q := by
  obtain ⟨v', w', hr, h2, h3, h4⟩ := run_extend (P := P) (t := t) (ty := o.type) E ht hown hx hT h63 hbytes hbase
  unfold Oper.wp execOp
  simp only [ho, resolve, invoke, builtin, Sem.run_bind, Sem.run_pure, Result.andThen_ok, List.map_toArray, List.map_cons, List.map_nil, hs, hxv, hr]
  exact h v' w' h2 h3 h4
theorem wpList_extend {rest : List Oper} (hgd : o.guard = none) (s x : Operand) (t : TypeId) (ho : o.op = .call { callee := .builtin .append, args := #[s, x], argTypes := #[t, t] })
    (E : Elt P e r.size bytes) (ht : P.underlying t = some (.slice e)) (hs : a.eval s = v) (hown : Own r w base e v l S)
    (T : Nat → Prop) (k : List α) (A : Option Addr) (m c : Nat) (hxv : a.eval x = .slice A m c) (hx : SlV r w T k (.slice A m c)) (hT : ∀ b, T b → v.ownBlock ≠ some b)
    (h63 : l.length + k.length ≤ maxLen) (hbytes : (l.length + k.length) * bytes ≤ 140737488355328) (hbase : base ≤ w.heap.size)
    (h : ∀ v' w', Own r w' base e v' (l ++ k) (fun b => S b ∨ (T b ∧ b < w.heap.size)) → w.grownBy w' v.ownBlock → (v'.ownBlock = v.ownBlock ∨ v'.ownBlock = some w.heap.size) → wpList P ops Q rest (a.put o.dst v') w') :
    wpList P ops Q (o :: rest) a w :=
  wpList_plain hgd fun _ hK => wp_extend hgd s x t ho E ht hs hown T k A m c hxv hx hT h63 hbytes hbase fun v' w' h1 h2 h3 => hK _ _ (h v' w' h1 h2 h3)
end

/-- an empty block of the call's own -/
theorem Own.empty (r : Rp α) (w : World) (base : Nat) (e : TypeId) (hb : base ≤ w.heap.size) : Own r (w.alloc (.cells #[] e)) base e (.slice (some ⟨w.heap.size, 0, none⟩) 0 0) [] (fun _ => False) :=
  ⟨fun b hb => hb.elim, [], World.ownsRow_made w #[] 0 hb (by simp [maxLen]) (by simp), rfl⟩

/-- a function value's call enters its function -/
def Enters (P : Program) (f : FuncId) : Prop := ∀ (args : Array Value) (w : World), (callFunc f args).run P w = .ok (.enter f args) w
theorem enters_of {P : Program} {f : FuncId} {fn : Func} {c : Code} (hf : P.funcs[f]? = some fn) (hname : (fn.name == "runtime.NumGoroutine") = false) (hb : fn.body = some c) : Enters P f := by
  intro args w
  have h1 : fn.name ≠ "runtime.NumGoroutine" := by simpa using hname
  simp [callFunc, hf, h1, hb, mark]

/-- a new block's cells, from its head -/
theorem news_of (w : World) (cs : Array Value) (t : TypeId) : ∀ (j : Nat) (u : Value), cs.toList[j]? = some u → (w.alloc (.cells cs t)).cell? ((⟨w.heap.size, 0, none⟩ : Addr).add j) = some u := by
  intro j u hu
  have hadd : (⟨w.heap.size, 0, none⟩ : Addr).add j = ⟨w.heap.size, j, none⟩ := by unfold Addr.add; split <;> simp_all
  rw [hadd, cell_of_row _ _ j cs t (0, 0) (heap_alloc_new w _)]
  simpa using hu
end
end Go.Proofs.YthbnmehbhpakaaaGreatDoor
