/-
  Readings of cells as data, over any program: what is proved here is that a reading stays as long as the blocks that it meets stay.
  What a call is handed, opened: from the form's reading of an argument to a reading as data, with the form's own bounds on sizes; over any program.
-/
import Derived.Below
import Derived.Calls
import Derived.Laws.AppendOwn
import Derived.Laws.OwnMore
import Derived.Deep.Draws
import Derived.ProofKit
import Derived.SizedLaws
import Derived.Deep.Slices
import Derived.OpenShut
import Derived.Test.YtminjjdnmpaaoaaGreatDoorRows
namespace Go.Proofs.YtminjjdnmpaaoaaGreatDoor
open Go.RowKit
set_option linter.unusedVariables false
set_option linter.unusedSimpArgs false

/-- a reading: how many cells, and when cells in a world read as a datum; 'S' tells which blocks may be met -/
structure Rp (α : Type) where
  size : Nat
  holds : World → (Nat → Prop) → α → List Value → Prop
  len : ∀ {w S x cs}, holds w S x cs → cs.length = size
  one : ∀ {w S x cs}, holds w S x cs → ∀ u ∈ cs, u.oneCell' = true
  mono : ∀ {w w' S S' x cs}, holds w S x cs → (∀ b, S b → b < w.heap.size → S' b ∧ w'.heap[b]? = w.heap[b]?) → holds w' S' x cs

/-- whole numbers of 64 bits -/
def I64 (n : Int) : Prop := -9223372036854775808 ≤ n ∧ n ≤ 9223372036854775807

def rInt : Rp Int where
  size := 1
  holds := fun _ _ x cs => cs = [.int .i64 x] ∧ I64 x
  len := fun h => by rw [h.1]; rfl
  one := fun h => by rw [h.1]; simp [Value.oneCell']
  mono := fun h _ => h

def rBool : Rp Bool where
  size := 1
  holds := fun _ _ x cs => cs = [.bool x]
  len := fun h => by rw [h]; rfl
  one := fun h => by rw [h]; simp [Value.oneCell']
  mono := fun h _ => h

def rStr : Rp ByteArray where
  size := 1
  holds := fun _ _ x cs => cs = [.string x] ∧ x.size ≤ maxLen
  len := fun h => by rw [h.1]; rfl
  one := fun h => by rw [h.1]; simp [Value.oneCell']
  mono := fun h _ => h

theorem cell_same {w w' : World} {b : Nat} (h : w'.heap[b]? = w.heap[b]?) (o : Nat) (s : Option Nat) : w'.cell? ⟨b, o, s⟩ = w.cell? ⟨b, o, s⟩ := by
  simp [World.cell?, h]
theorem frozen_same {w w' : World} {b : Nat} (h : w'.heap[b]? = w.heap[b]?) (o : Nat) (s : Option Nat) : w'.frozen? ⟨b, o, s⟩ = w.frozen? ⟨b, o, s⟩ := by
  simp [World.frozen?, h]
theorem cell_lt {w : World} {b o : Nat} {v : Value} (h : w.cell? ⟨b, o, none⟩ = some v) : b < w.heap.size := World.block_lt_of_cell? w _ h

/-- the cells of a row of data, from a place on -/
def Row {α : Type} (r : Rp α) (w : World) (S : Nat → Prop) (b o : Nat) (l : List α) : Prop :=
  S b ∧ b < w.heap.size ∧ ∀ (i : Nat) (x : α), l[i]? = some x → ∃ cs, r.holds w S x cs ∧ ∀ (j : Nat) (u : Value), cs[j]? = some u → w.cell? ⟨b, o + i * r.size + j, none⟩ = some u

theorem Row.mono {α : Type} {r : Rp α} {w w' : World} {S S' : Nat → Prop} {b o : Nat} {l : List α} (h : Row r w S b o l)
    (hk : ∀ b, S b → b < w.heap.size → S' b ∧ w'.heap[b]? = w.heap[b]?) : Row r w' S' b o l := by
  obtain ⟨h1, h2, h3⟩ := h
  have hb := hk b h1 h2
  have hlt : b < w'.heap.size := by
    have : w.heap[b]? = some w.heap[b] := Array.getElem?_eq_getElem h2
    rw [this] at hb
    exact (Array.getElem?_eq_some_iff.1 hb.2).1
  refine ⟨hb.1, hlt, fun i x hx => ?_⟩
  obtain ⟨cs, hc, hcell⟩ := h3 i x hx
  exact ⟨cs, r.mono hc hk, fun j u hu => (cell_same hb.2 _ _).trans (hcell j u hu)⟩

def rSlice {α : Type} (r : Rp α) : Rp (List α) where
  size := 1
  holds := fun w S l cs => ∃ (A : Option Addr) (c : Nat), cs = [.slice A l.length c] ∧ l.length ≤ c ∧ c ≤ maxLen ∧ (A = none → c = 0) ∧
    (0 < l.length → ∃ b o, A = some ⟨b, o, none⟩ ∧ Row r w S b o l)
  len := fun ⟨_, _, h, _⟩ => by rw [h]; rfl
  one := fun ⟨_, _, h, _⟩ => by rw [h]; simp [Value.oneCell']
  mono := fun ⟨A, c, h1, h2, h3, h4, h5⟩ hk => ⟨A, c, h1, h2, h3, h4, fun hn => by
    obtain ⟨b, o, hA, hr⟩ := h5 hn
    exact ⟨b, o, hA, hr.mono hk⟩⟩

/-- one more name for a slice's reading: its value -/
def SlV {α : Type} (r : Rp α) (w : World) (S : Nat → Prop) (l : List α) (v : Value) : Prop := (rSlice r).holds w S l [v]

section
variable {α : Type} {r : Rp α} {w w' : World} {S S' : Nat → Prop} {l : List α} {A : Option Addr} {n c : Nat}

theorem SlV.nil_ (r : Rp α) (w : World) (S : Nat → Prop) : SlV r w S [] (.slice none 0 0) :=
  ⟨none, 0, rfl, by simp, by simp [maxLen], fun _ => rfl, fun h => absurd h (by simp)⟩

theorem SlV.val {v : Value} (h : SlV r w S l v) : ∃ A c, v = .slice A l.length c ∧ l.length ≤ c ∧ c ≤ maxLen := by
  obtain ⟨A, c, h1, h2, h3, _⟩ := h
  exact ⟨A, c, by simpa using h1, h2, h3⟩

/-- an element: where it lies -/
theorem SlV.elem (h : SlV r w S l (.slice A n c)) {i : Nat} {x : α} (hx : l[i]? = some x) :
    ∃ b o cs, A = some ⟨b, o, none⟩ ∧ S b ∧ b < w.heap.size ∧ r.holds w S x cs ∧ ∀ (j : Nat) (u : Value), cs[j]? = some u → w.cell? ⟨b, o + i * r.size + j, none⟩ = some u := by
  obtain ⟨A', c', h1, h2, h3, _, h5⟩ := h
  simp only [List.cons.injEq, Value.slice.injEq, and_true] at h1
  obtain ⟨rfl, _, rfl⟩ := h1
  have hlt : i < l.length := (List.getElem?_eq_some_iff.1 hx).1
  obtain ⟨b, o, hA, hS, hb, hr⟩ := h5 (by omega)
  obtain ⟨cs, hc, hcell⟩ := hr i x hx
  exact ⟨b, o, cs, hA, hS, hb, hc, hcell⟩

theorem SlV.n_eq (h : SlV r w S l (.slice A n c)) : n = l.length := by
  obtain ⟨A', c', h1, _⟩ := h
  simp only [List.cons.injEq, Value.slice.injEq, and_true] at h1
  exact h1.2.1
theorem SlV.cap_le (h : SlV r w S l (.slice A n c)) : l.length ≤ c ∧ c ≤ maxLen := by
  obtain ⟨A', c', h1, h2, h3, _⟩ := h
  simp only [List.cons.injEq, Value.slice.injEq, and_true] at h1
  obtain ⟨_, _, rfl⟩ := h1
  exact ⟨h2, h3⟩
theorem SlV.none_ (h : SlV r w S l (.slice none n c)) : l = [] ∧ c = 0 := by
  obtain ⟨A', c', h1, h2, h3, h4, _⟩ := h
  simp only [List.cons.injEq, Value.slice.injEq, and_true] at h1
  obtain ⟨rfl, _, rfl⟩ := h1
  have := h4 rfl
  exact ⟨List.eq_nil_of_length_eq_zero (by omega), this⟩

/-- what stays as it was, stays read -/
theorem Rp.keep {x : α} {cs : List Value} (h : r.holds w S x cs) (hk : ∀ b, S b → b < w.heap.size → w'.heap[b]? = w.heap[b]?) : r.holds w' S x cs :=
  r.mono h fun b hb hl => ⟨hb, hk b hb hl⟩
theorem Rp.more {x : α} {cs : List Value} (h : r.holds w S x cs) (hk : ∀ b, S b → b < w.heap.size → S' b) : r.holds w S' x cs :=
  r.mono h fun b hb hl => ⟨hk b hb hl, rfl⟩
theorem Rp.below {B : Nat} {x : α} {cs : List Value} (h : r.holds w S x cs) (hb : Below B w w') (hS : ∀ b, S b → b < B) : r.holds w' S x cs :=
  Rp.keep h fun b hs _ => hb.block b (hS b hs)
theorem Rp.belowSize {x : α} {cs : List Value} (h : r.holds w S x cs) (hb : Below w.heap.size w w') : r.holds w' S x cs :=
  Rp.keep h fun b _ hl => hb.block b hl
theorem Rp.drew {x : α} {cs : List Value} (h : r.holds w S x cs) : r.holds w.drew S x cs := Rp.keep h fun _ _ _ => rfl
theorem Rp.drewN {x : α} {cs : List Value} (h : r.holds w S x cs) (k : Nat) : r.holds (w.drewN k) S x cs := Rp.keep h fun _ _ _ => rfl
theorem Rp.alloc {x : α} {cs : List Value} (h : r.holds w S x cs) (o : Obj) : r.holds (w.alloc o) S x cs :=
  Rp.keep h fun b _ hl => Below.heap_alloc w o b hl
theorem SlV.keep {v : Value} (h : SlV r w S l v) (hk : ∀ b, S b → b < w.heap.size → w'.heap[b]? = w.heap[b]?) : SlV r w' S l v := Rp.keep h hk
theorem SlV.more {v : Value} (h : SlV r w S l v) (hk : ∀ b, S b → b < w.heap.size → S' b) : SlV r w S' l v := Rp.more h hk
theorem SlV.below {B : Nat} {v : Value} (h : SlV r w S l v) (hb : Below B w w') (hS : ∀ b, S b → b < B) : SlV r w' S l v := Rp.below h hb hS
theorem SlV.belowSize {v : Value} (h : SlV r w S l v) (hb : Below w.heap.size w w') : SlV r w' S l v := Rp.belowSize h hb
theorem SlV.drew {v : Value} (h : SlV r w S l v) : SlV r w.drew S l v := Rp.drew h
theorem SlV.drewN {v : Value} (h : SlV r w S l v) (k : Nat) : SlV r (w.drewN k) S l v := Rp.drewN h k
theorem SlV.alloc {v : Value} (h : SlV r w S l v) (o : Obj) : SlV r (w.alloc o) S l v := Rp.alloc h o
end
end Go.Proofs.YtminjjdnmpaaoaaGreatDoor
namespace Go.Proofs.YtminjjdnmpaaoaaGreatDoor
open Go.RowKit Go.ChangeShapes Go.WideShapes Go.ChangeAt
set_option linter.unusedVariables false
set_option linter.unusedSimpArgs false

section
variable {P : Program} {t e : TypeId} {α : Type} {r : Rp α} {sz : α → Prop}

theorem bounds_i64 {x : Int} (h : (Lit.int .i64 x).wf = true) : I64 x := by
  have : -9223372036854775808 ≤ x ∧ x ≤ 9223372036854775807 := by simpa [Lit.wf, IntKind.min, IntKind.max, IntKind.signed, IntKind.bits] using h
  exact this

theorem trodAll_stays {H : Type} {enc : TypeId × Value → H} (hl : laidOutB P = true) {W W' : World} (hb : Below W.heap.size W W') {sp' : Nat → Bool} : ∀ {ts : List TypeId} {vs : List Value} {ds : List (DataW H)} {ps : List MemPlace},
    (∀ t ∈ ts, P.readableRec t = true ∧ t < P.types.size) → DataW.TrodAll enc P W 0 (fun _ => true) true ts vs ds ps → (∀ x ∈ ps, x.block < W.heap.size) → (∀ x ∈ ps, sp' x.block = true) → DataW.TrodAll enc P W' 0 sp' true ts vs ds ps := by
  intro ts
  induction ts with
  | nil => intro vs ds ps _ h _ _; obtain ⟨rfl, rfl, rfl⟩ := trodAll_nil h; exact trodAll_mk0
  | cons t ts ih =>
    intro vs ds ps hr h hlt hsp
    obtain ⟨v, vs', d, ds', p, q, rfl, rfl, rfl, h1, h2⟩ := trodAll_cons h
    obtain ⟨g1, g2⟩ := hr t (by simp)
    refine trodAll_cons_mk (WideElems.Trod_stays hl g1 g2 h1 (fun x hx => hb.same (hlt x (by simp [hx]))) (fun x hx => hsp x (by simp [hx]))) (ih (fun t' ht' => hr t' (by simp [ht'])) h2 (fun x hx => hlt x (by simp [hx])) (fun x hx => hsp x (by simp [hx])))

/-- the row's last step: a law that answered true, in a world that kept all that was there -/
theorem law_post {H : Type} {enc : TypeId × Value → H} {f : Func} {s : ChangeSpec} {W W' : World} {args : Array Value} {ds : List (DataW H)} {before : List MemPlace} {tb : TypeId}
    (hl : laidOutB P = true) (hvars : s.vars = []) (hW : DataW.Whole enc P f.params.toList s.vars false W args.toList ds [] before)
    (hrt : f.resultTypes = #[tb]) (htb : P.underlying tb = some .bool) (hres : (s.fn H (ds ++ [])).results = [.lit (.bool true)]) (hargs : (s.fn H (ds ++ [])).args = ds) (hvs : (s.fn H (ds ++ [])).vars = [])
    (hr : ∀ t ∈ f.params.toList, P.readableRec t = true ∧ t < P.types.size) (hb : Below W.heap.size W W') :
    s.post enc P f false true false false W args (.bool true) W' := by
  have hlt : ∀ p ∈ before, p.block < W.heap.size := fun p hp => hW.lt p hp
  have hold : ∀ p ∈ before, (fun b => decide (b < W.heap.size)) p.block = true := fun p hp => by simpa using hlt p hp
  have hW0 := hW
  obtain ⟨p, q, hA, hV, hbe, hz, hn⟩ := hW0
  rw [hvars] at hV
  have hbe' : before = p := by rw [hbe, (trodVars_none hV).2, List.append_nil]
  subst hbe'
  refine ⟨ds, [], before, [], before, [], hW, ?_, ?_, ?_, World.keptBut_mono (fun p hp => ⟨hp, ?_⟩) (hb.frame (fun x => x ∈ before)), fun h => by cases h⟩
  · rw [hres, hrt]; exact trodAll_mk1 (shut_bool htb true)
  · rw [hargs]; exact trodAll_stays hl hb hr hA hlt hold
  · rw [hvs, hvars]; exact rfl
  · exact Or.inr (by simpa using hp)
end
end Go.Proofs.YtminjjdnmpaaoaaGreatDoor
/-
  What a call is handed, opened under a bound on its bulk: a reading as data whose measure is at most the reading's bulk.
-/
namespace Go.Proofs.YtminjjdnmpaaoaaGreatDoor
open Go.RowKit Go.ChangeShapes Go.WideShapes Go.ChangeAt
set_option linter.unusedVariables false
set_option linter.unusedSimpArgs false

/-- whatever reads at type t reads as a datum of r whose measure is at most the reading's bulk -/
def OpensB {α : Type} (P : Program) (t : TypeId) (r : Rp α) (bk : α → Nat) : Prop :=
  ∀ (H : Type) (enc : TypeId × Value → H) (w : World) (base fuel : Nat) (cs : List Value) (x : DataW H × List MemPlace),
    DataW.trod enc P w base (fun _ => true) true fuel t cs = some x → ∃ y, r.holds w (fun b => b < w.heap.size) y cs ∧ bk y ≤ Rows.uptoBulk x.1

theorem bulk_pos {H : Type} (d : DataW H) : 1 ≤ Rows.uptoBulk d := by
  cases d with
  | lit l => cases l <;> simp [Rows.uptoBulk]
  | nil => simp [Rows.uptoBulk]
  | ptr d => simp [Rows.uptoBulk]
  | slice elems spare => simp [Rows.uptoBulk]
  | agg parts => simp [Rows.uptoBulk]
  | iface t d => simp [Rows.uptoBulk]
  | map entries => simp [Rows.uptoBulk]
  | held h => simp [Rows.uptoBulk]
theorem bulkAll_append {H : Type} (l r : List (DataW H)) : Rows.uptoBulkAll (l ++ r) = Rows.uptoBulkAll l + Rows.uptoBulkAll r := by
  induction l with
  | nil => simp [Rows.uptoBulkAll]
  | cons x l ih => simp only [List.cons_append, Rows.uptoBulkAll, ih]; omega

section
variable {P : Program} {t e : TypeId} {α : Type} {r : Rp α} {bk : α → Nat}

theorem opensB_int (ht : P.underlying t = some (.int .i64)) : OpensB P t rInt (fun _ => 1) := by
  intro H enc w base fuel cs x h
  obtain ⟨n, rfl, _, hw⟩ := DataW.trod_int ht h
  exact ⟨n, ⟨rfl, bounds_i64 hw⟩, bulk_pos _⟩
theorem opensB_bool (ht : P.underlying t = some .bool) : OpensB P t rBool (fun _ => 1) := by
  intro H enc w base fuel cs x h
  obtain ⟨b, rfl, _⟩ := DataW.trod_bool ht h
  exact ⟨b, rfl, bulk_pos _⟩
theorem opensB_str (ht : P.underlying t = some .string) : OpensB P t rStr (fun s => s.size + 1) := by
  intro H enc w base fuel cs x h
  obtain ⟨s, rfl, rfl, hs⟩ := DataW.trod_string ht h
  exact ⟨s, ⟨rfl, hs⟩, by simp [Rows.uptoBulk]⟩

/-- the measure of a list -/
def bkL (bk : α → Nat) : List α → Nat
  | [] => 1
  | x :: l => bk x + bkL bk l
theorem bkL_mem {l : List α} {x : α} (h : x ∈ l) : bk x ≤ bkL bk l := by
  induction l with
  | nil => cases h
  | cons y l ih =>
    simp only [bkL]
    rcases List.mem_cons.1 h with rfl | h
    · omega
    · have := ih h; omega
theorem bkL_len {l : List α} (h1 : ∀ x, 1 ≤ bk x) : l.length + 1 ≤ bkL bk l := by
  induction l with
  | nil => exact Nat.le_refl _
  | cons y l ih => simp only [bkL, List.length_cons]; have := h1 y; omega
theorem bkL_append (l k : List α) : bkL bk (l ++ k) + 1 = bkL bk l + bkL bk k := by
  induction l with
  | nil => simp [bkL]; omega
  | cons y l ih => simp only [bkL, List.cons_append]; omega

theorem opensB_slice (ht : P.underlying t = some (.slice e)) (hC : P.cellsOf e = r.size) (hpos : 0 < r.size) (ho : OpensB P e r bk) : OpensB P t (rSlice r) (bkL bk) := by
  intro H enc w base fuel cs x h
  rcases Go.Deep.open_slice ht h with ⟨rfl, rfl⟩ | ⟨a, len, cap, m, n, D, Pl, rfl, hb, hl, hm, hmm, rfl, hi⟩
  · exact ⟨[], SlV.nil_ _ _ _, by simp [bkL, Rows.uptoBulk]⟩
  · have hmc : m = cap := by simpa using hmm
    subst hmc
    have hel : ∀ i, i < len → ∃ y cs', w.cells? base (a.add (i * r.size)) r.size = some cs' ∧ r.holds w (fun b => b < w.heap.size) y cs' ∧ bk y ≤ Rows.uptoBulk (D i) := by
      intro i hil
      obtain ⟨cs', h1, h2⟩ := hi i (by omega)
      rw [hC] at h1
      obtain ⟨y, h3, h4⟩ := ho H enc w base n cs' (D i, Pl i) h2
      exact ⟨y, cs', h1, h3, h4⟩
    have hlist : ∀ k, k ≤ len → ∃ l : List α, l.length = k ∧ bkL bk l ≤ Rows.uptoBulkAll ((List.range k).map D) + 1 ∧ ∀ (i : Nat) (y : α), l[i]? = some y → ∃ cs', w.cells? base (a.add (i * r.size)) r.size = some cs' ∧ r.holds w (fun b => b < w.heap.size) y cs' := by
      intro k
      induction k with
      | zero => intro _; exact ⟨[], rfl, by simp [bkL, Rows.uptoBulkAll], by simp⟩
      | succ k ih =>
        intro hk
        obtain ⟨l, h1, h2, h3⟩ := ih (by omega)
        obtain ⟨y, cs', g1, g2, g3⟩ := hel k (by omega)
        refine ⟨l ++ [y], by simp [h1], ?_, ?_⟩
        · have := bkL_append (bk := bk) l [y]
          rw [List.range_succ, List.map_append, bulkAll_append]
          simp only [bkL, List.map_cons, List.map_nil, Rows.uptoBulkAll] at *
          omega
        · intro i z hz'
          by_cases hi' : i < l.length
          · rw [List.getElem?_append_left hi'] at hz'
            exact h3 i z hz'
          · have : i = k := by
              have : i < (l ++ [y]).length := (List.getElem?_eq_some_iff.1 hz').1
              simp at this; omega
            subst this
            rw [List.getElem?_append_right (by omega), h1, Nat.sub_self] at hz'
            simp at hz'
            subst hz'
            exact ⟨cs', g1, g2⟩
    obtain ⟨l, h1, h2, h3⟩ := hlist len (Nat.le_refl _)
    refine ⟨l, ⟨some a, m, by rw [h1], by omega, hm, (fun h => by cases h), fun hn => ?_⟩, ?_⟩
    · obtain ⟨y0, hy0⟩ : ∃ y, l[0]? = some y := ⟨l[0], List.getElem?_eq_getElem hn⟩
      obtain ⟨cs0, g1, g2⟩ := h3 0 y0 hy0
      obtain ⟨_, hcl, hat⟩ := World.cells?_some g1
      rw [Nat.zero_mul, show a.add 0 = a from rfl] at hat
      have hc0 := hat 0 (by omega)
      rw [show a.add 0 = a from rfl] at hc0
      have hcs0 : cs0[0]? = some (cs0[0]'(by omega)) := List.getElem?_eq_getElem (by omega)
      rw [hcs0] at hc0
      have hsp : a.spot = none := by
        unfold World.cell? at hc0
        split at hc0
        · split at hc0
          · cases hc0
          · rename_i hh; simpa using hh
        · cases hc0
      obtain ⟨b, o, sp⟩ := a
      simp only at hsp
      subst hsp
      refine ⟨b, o, rfl, World.block_lt_of_cell? w _ hc0, World.block_lt_of_cell? w _ hc0, fun i y hy => ?_⟩
      obtain ⟨cs', g3, g4⟩ := h3 i y hy
      obtain ⟨_, hcl', hat'⟩ := World.cells?_some g3
      refine ⟨cs', g4, fun j u hu => ?_⟩
      have hj : j < r.size := by have := (List.getElem?_eq_some_iff.1 hu).1; omega
      have := hat' j hj
      rw [hu] at this
      have hadd : ∀ n k, ((⟨b, o, none⟩ : Addr).add n).add k = ⟨b, o + n + k, none⟩ := fun n k => by
        unfold Addr.add
        by_cases h1 : n = 0 <;> by_cases h2 : k = 0 <;> simp [h1, h2]
      rw [hadd] at this
      exact this
    · simp only [Rows.uptoBulk]
      omega

/-- an argument, opened -/
theorem opensB_arg (ho : OpensB P t r bk) {H : Type} {enc : TypeId × Value → H} {w : World} {v : Value} {d : DataW H} {ps : List MemPlace}
    (h : DataW.Trod enc P w 0 (fun _ => true) true t v d ps) : ∃ y, r.holds w (fun b => b < w.heap.size) y v.cells.toList ∧ bk y ≤ Rows.uptoBulk d := by
  obtain ⟨fuel, hf⟩ := h
  exact ho H enc w 0 fuel _ (d, ps) hf

theorem bulk_of {H : Type} {l : List (DataW H)} (hk : Rows.uptoSmall H l = true) : Rows.uptoBulkAll l ≤ 1048576 := of_decide_eq_true hk
end
end Go.Proofs.YtminjjdnmpaaoaaGreatDoor
