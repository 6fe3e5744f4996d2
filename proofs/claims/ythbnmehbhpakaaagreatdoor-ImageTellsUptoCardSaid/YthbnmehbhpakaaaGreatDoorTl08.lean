/-
  A row of ints of the call's own, told by its cells: it is read, written at its places, appended to, and its head moves on.
-/
import Derived.Test.YthbnmehbhpakaaaGreatDoorTl01
import Derived.Laws.OwnMore
import Derived.Deep.AppendSrc
import Derived.Deep.Upon
set_option autoImplicit false
set_option relaxedAutoImplicit false
set_option linter.unusedVariables false
set_option linter.unusedSimpArgs false
namespace Go.Proofs.YthbnmehbhpakaaaGreatDoor
open Go.RowKit

theorem cell_set_same {w : World} {a : Addr} {v u : Value} (h : w.cell? a = some u) : (w.setCell a v).cell? a = some v := by
  apply World.cell?_setCell_same (h := h)
theorem cell_set_off {w : World} {g o o' : Nat} {v : Value} (h : o ≠ o') : (w.setCell ⟨g, o, none⟩ v).cell? ⟨g, o', none⟩ = w.cell? ⟨g, o', none⟩ := by
  apply World.cell?_setCell_other
  intro e
  simp only [Addr.mk.injEq] at e
  exact h e.2.1
/-- the value is '.slice (some ⟨g, k, none⟩) l.length cap' -/
structure IRow (w : World) (base g k cap : Nat) (l : List Int) : Prop where
  lo : base ≤ g
  le : l.length ≤ cap
  max : cap ≤ maxLen
  lt : g < w.heap.size
  at_ : ∀ (j : Nat) (x : Int), l[j]? = some x → w.cell? ⟨g, k + j, none⟩ = some (.int .i64 x)
  there : ∀ j, j < cap → (w.cell? ⟨g, k + j, none⟩).isSome = true ∧ w.frozen? ⟨g, k + j, none⟩ = false

section
variable {w w' : World} {base g k cap : Nat} {l : List Int}
theorem IRow.keepBlock (h : IRow w base g k cap l) (hs : w.heap.size ≤ w'.heap.size) (hb : w'.heap[g]? = w.heap[g]?) : IRow w' base g k cap l :=
  ⟨h.lo, h.le, h.max, Nat.lt_of_lt_of_le h.lt hs, fun j x hj => (cell_same hb _ _).trans (h.at_ j x hj), fun j hj => ⟨by rw [cell_same hb]; exact (h.there j hj).1, (frozen_same hb _ _).trans (h.there j hj).2⟩⟩
theorem IRow.keep (h : IRow w base g k cap l) (hb : Below w.heap.size w w') : IRow w' base g k cap l := h.keepBlock hb.size (hb.block g h.lt)
theorem IRow.alloc (h : IRow w base g k cap l) (o : Obj) : IRow (w.alloc o) base g k cap l := h.keep ((Below.refl _ _).alloc (Nat.le_refl _) o)
theorem IRow.drew (h : IRow w base g k cap l) : IRow w.drew base g k cap l := h.keepBlock (Nat.le_refl _) rfl
theorem IRow.grown (h : IRow w base g k cap l) {row : Option Nat} (hg : w.grownBy w' row) (hne : some g ≠ row) : IRow w' base g k cap l := h.keepBlock hg.size (hg.block g h.lt hne)
theorem IRow.get (h : IRow w base g k cap l) {j : Nat} (hj : j < l.length) : w.cell? ⟨g, k + j, none⟩ = some (.int .i64 l[j]) := h.at_ j _ (List.getElem?_eq_getElem hj)
theorem IRow.frozen (h : IRow w base g k cap l) {j : Nat} (hj : j < cap) : w.frozen? ⟨g, k + j, none⟩ = false := (h.there j hj).2
theorem IRow.tail {x : Int} (h : IRow w base g k cap (x :: l)) : IRow w base g (k + 1) (cap - 1) l := by
  have h1 := h.le
  have h2 := h.max
  rw [List.length_cons] at h1
  exact ⟨h.lo, by omega, by omega, h.lt, fun j y hj => by rw [show k + 1 + j = k + (j + 1) by omega]; exact h.at_ (j + 1) y (by simpa using hj),
    fun j hj => by rw [show k + 1 + j = k + (j + 1) by omega]; exact h.there (j + 1) (by omega)⟩
theorem IRow.set (h : IRow w base g k cap l) {j : Nat} (hj : j < l.length) (x : Int) :
    IRow (w.setCell ⟨g, k + j, none⟩ (.int .i64 x)) base g k cap (l.set j x) ∧ w.grownBy (w.setCell ⟨g, k + j, none⟩ (.int .i64 x)) (some g) := by
  have hle := h.le
  refine ⟨⟨h.lo, by simpa using h.le, h.max, by simpa using h.lt, fun i y hi => ?_, fun i hi => ?_⟩, ⟨rfl, rfl, rfl, by simp, fun b _ hk => heap_setCell_other w ⟨g, k + j, none⟩ b _ (fun e => hk (by simp [e]))⟩⟩
  · by_cases hij : i = j
    · subst hij
      rw [List.getElem?_set_self hj] at hi
      injection hi with hi
      subst hi
      exact cell_set_same (h.get hj)
    · rw [List.getElem?_set_ne (Ne.symm hij)] at hi
      rw [cell_set_off (by omega)]
      exact h.at_ i y hi
  · have hf := (h.there i hi)
    refine ⟨?_, (World.frozen?_setCell _ _ _ _).trans hf.2⟩
    by_cases hij : i = j
    · subst hij
      rw [cell_set_same (h.get hj)]; rfl
    · rw [cell_set_off (by omega)]
      exact hf.1
theorem IRow.of_owns {e : TypeId} (h : w.ownsRow base e 1 (.slice (some ⟨g, 0, none⟩) l.length cap) l.length (l.map (Value.int .i64))) : IRow w base g 0 cap l := by
  have hlt := h.lt g rfl
  have hfz := fun j => World.ownsRow.frozenAt h j
  rcases h.2 with ⟨h', _⟩ | ⟨g', cap', cur, h', hb, hg, hnc, hcm, hcs, htake⟩
  · simp at h'
  · simp only [Value.slice.injEq, Option.some.injEq, Addr.mk.injEq, and_true, true_and] at h'
    obtain ⟨rfl, rfl⟩ := h'
    refine ⟨hlt.1, hnc, hcm, hlt.2, fun j x hj => ?_, fun j hj => ⟨?_, by rw [Nat.zero_add]; exact hfz j⟩⟩
    · have hjl : j < l.length := (List.getElem?_eq_some_iff.1 hj).1
      rw [Nat.zero_add, World.ownsRow.cellAt h j (by omega), List.getElem?_map, hj]
      rfl
    · rw [Nat.zero_add, cell_of_row w g j cur e (0, 0) hg, Array.getElem?_eq_getElem (by omega)]
      rfl
theorem IRow.slv (h : IRow w base g k cap l) (hi : ∀ x ∈ l, I64 x) : SlV rInt w (fun b => base ≤ b) l (.slice (some ⟨g, k, none⟩) l.length cap) :=
  ⟨some ⟨g, k, none⟩, cap, rfl, h.le, h.max, (fun e => by cases e), fun _ => ⟨g, k, rfl, h.lo, h.lt, fun i x hx => ⟨[.int .i64 x], ⟨rfl, hi x (List.mem_of_getElem? hx)⟩, fun j u hu => by
    cases j with
    | zero => simp at hu; subst hu; simpa [rInt] using h.at_ i x hx
    | succ j => simp at hu⟩⟩⟩
/-- a row of one's own that was laid as a literal of one element -/
theorem IRow.lit (w : World) (base : Nat) (e : TypeId) (x : Int) (hb : base ≤ w.heap.size) : IRow (w.alloc (.cells #[.int .i64 x] e)) base w.heap.size 0 1 [x] :=
  IRow.of_owns (e := e) (World.ownsRow_lit w #[.int .i64 x] 1 hb (by simp [maxLen]) rfl)

theorem IRow.push {P : Program} {t ty e : TypeId} {bytes : Nat} (E : Elt P e 1 bytes) (ht : P.underlying t = some (.slice e)) (h : IRow w base g k cap l)
    (ad : Addr) (c : Nat) (y : Int) (hy : w.cell? ad = some (.int .i64 y)) (h63 : l.length + 1 ≤ maxLen) (hbytes : (l.length + 1) * bytes ≤ 140737488355328) (hbase : base ≤ w.heap.size) :
    ∃ g' k' cap' w', (Builtin.append_ #[t, t] ty #[.slice (some ⟨g, k, none⟩) l.length cap, .slice (some ad) 1 c]).run P w = .ok (.slice (some ⟨g', k', none⟩) (l.length + 1) cap') w' ∧
      IRow w' base g' k' cap' (l ++ [y]) ∧ w.grownBy w' (some g) ∧ (g' = g ∨ g' = w.heap.size) := by
  obtain ⟨i, z, hi, hz, hsz, hby, hzs, hpos⟩ := E
  have hadd0 : ad.add 0 = ad := by unfold Addr.add; split <;> simp_all
  have hs : Src P i.size t (.slice (some ad) 1 c) 1 [Value.int .i64 y] w := Src.ofSlice (P := P) w ht ad 1 c [Value.int .i64 y] (by rw [hsz]; rfl) (fun j u hu => by
    cases j with
    | zero => simp at hu; subst hu; rw [hadd0]; exact hy
    | succ j => simp at hu) (by simp [Value.oneCell'])
  have hle := h.le
  have hmx := h.max
  by_cases hroom : l.length + 1 ≤ cap
  · have hth := h.there l.length (by omega)
    have hrun := run_append_room_src (P := P) w t t ty e i ht hi g k l.length cap _ 1 _ hs hroom
      (fun j hj => by have : j = 0 := by simpa using hj
                      subst this; rw [hsz, Nat.mul_one, Nat.add_zero]; exact hth.1)
      (fun j hj => by have : j = 0 := by simpa using hj
                      subst this; rw [hsz, Nat.mul_one, Nat.add_zero]; exact hth.2)
    rw [hsz, Nat.mul_one] at hrun
    obtain ⟨u0, hu0⟩ := Option.isSome_iff_exists.1 hth.1
    refine ⟨g, k, cap, _, hrun, ⟨h.lo, by simpa using hroom, hmx, by simpa [World.setCells] using h.lt, fun j x hj => ?_, fun j hj => ?_⟩, ⟨rfl, rfl, rfl, by simp [World.setCells], fun b _ hk => heap_setCell_other w ⟨g, k + l.length, none⟩ b _ (fun e => hk (by simp [e]))⟩, .inl rfl⟩
    · simp only [World.setCells]
      by_cases hjl : j < l.length
      · rw [List.getElem?_append_left hjl] at hj
        rw [cell_set_off (by omega)]
        exact h.at_ j x hj
      · have hjj := (List.getElem?_eq_some_iff.1 hj).1
        simp at hjj
        have : j = l.length := by omega
        subst this
        simp at hj
        subst hj
        exact cell_set_same hu0
    · simp only [World.setCells]
      refine ⟨?_, (World.frozen?_setCell _ _ _ _).trans (h.there j hj).2⟩
      by_cases hjl : j = l.length
      · subst hjl; rw [cell_set_same hu0]; rfl
      · rw [cell_set_off (by omega)]; exact (h.there j hj).1
  · have holds : ∀ j u, (l.map (Value.int .i64))[j]? = some u → w.drew.cell? ((⟨g, k, none⟩ : Addr).add j) = some u := fun j u hu => by
      rw [List.getElem?_map] at hu
      rcases hx : l[j]? with _ | x
      · rw [hx] at hu; cases hu
      · rw [hx] at hu
        injection hu with hu
        subst hu
        rw [Addr.add_lit]
        exact h.at_ j x hx
    have hfc := run_firstCells_some (P := P) w.drew i.size l.length ⟨g, k, none⟩ l.length cap (l.map (Value.int .i64)) (by rw [hsz]; simp) holds
    have hby' := hby
    have hrun := run_append_grow_src (P := P) w t t ty e i z ht hi hz (some ⟨g, k, none⟩) l.length cap (l.map (Value.int .i64)) hfc _ 1 _ hs (by omega) (by unfold maxLen at h63; omega) (growslice_fits (by omega) (by rw [hby]; exact hbytes))
    have hge := grownCap_ge w (l.length + 1) cap e
    have hcm := grownCap_le_maxLen w (l.length + 1) cap e h63
    obtain ⟨C, hC⟩ : ∃ C, C = (l.map (Value.int .i64) ++ [Value.int .i64 y]).toArray ++ Builtin.zeroCells z.cells (grownCap w (l.length + 1) cap e - (l.length + 1)) := ⟨_, rfl⟩
    have e1 : ∀ j, (w.drew.alloc (.cells C e)).cell? ⟨w.heap.size, 0 + j, none⟩ = C[j]? := fun j => by rw [Nat.zero_add]; exact World.cell?_alloc_new w.drew _ _ j
    rw [← hC] at hrun
    refine ⟨w.heap.size, 0, _, _, hrun, ⟨hbase, by simpa using hge, hcm, by simp, fun j x hj => ?_, fun j hj => ⟨?_, by rw [Nat.zero_add]; exact World.frozen?_alloc_new w.drew _ _ j⟩⟩, ⟨rfl, rfl, rfl, by simp, fun b hb _ => Below.heap_alloc w.drew _ b hb⟩, .inr rfl⟩
    · have hjj := (List.getElem?_eq_some_iff.1 hj).1
      simp only [List.length_append, List.length_singleton] at hjj
      rw [e1, hC, Array.getElem?_append_left (by simp; omega), List.getElem?_toArray]
      have : (l.map (Value.int .i64) ++ [Value.int .i64 y]) = (l ++ [y]).map (Value.int .i64) := by simp
      rw [this, List.getElem?_map, hj]
      rfl
    · rw [e1, Array.getElem?_eq_getElem (by
        rw [hC, Array.size_append, List.size_toArray, size_zeroCells, hzs]
        simp only [List.length_append, List.length_map, List.length_singleton, Nat.mul_one]
        omega)]
      rfl
end

section
variable {P : Program} {ops : Array Oper} {o : Oper} {a : Act} {K : Act → World → Prop} {Q : Exit → Act → World → Prop} {bytes : Nat} {w : World} {base g k cap : Nat} {l : List Int}
theorem wp_ipush (hgd : o.guard = none) (s x : Operand) (t e : TypeId) (ho : o.op = .call { callee := .builtin .append, args := #[s, x], argTypes := #[t, t] })
    (E : Elt P e 1 bytes) (ht : P.underlying t = some (.slice e)) (n : Nat) (hn : n = l.length) (hs : a.eval s = .slice (some ⟨g, k, none⟩) n cap) (h : IRow w base g k cap l)
    (ad : Addr) (c : Nat) (y : Int) (hx : a.eval x = .slice (some ad) 1 c) (hy : w.cell? ad = some (.int .i64 y))
    (h63 : l.length + 1 ≤ maxLen) (hbytes : (l.length + 1) * bytes ≤ 140737488355328) (hbase : base ≤ w.heap.size) (H : Nat) (hH : w.heap.size = H)
    (hK : ∀ g' k' cap' w', IRow w' base g' k' cap' (l ++ [y]) → w.grownBy w' (some g) → (g' = g ∨ g' = H) → K (a.put o.dst (.slice (some ⟨g', k', none⟩) (n + 1) cap')) w') :
    o.wp P a w K Q := by
  subst hn
  subst hH
  obtain ⟨g', k', cap', w', hr, h2, h3, h4⟩ := IRow.push (P := P) (ty := o.type) E ht h ad c y hy h63 hbytes hbase
  unfold Oper.wp execOp
  simp only [ho, resolve, invoke, builtin, Sem.run_bind, Sem.run_pure, Result.andThen_ok, List.map_toArray, List.map_cons, List.map_nil, hs, hx, hr]
  exact hK g' k' cap' w' h2 h3 h4
theorem wpList_ipush {rest : List Oper} (hgd : o.guard = none) (s x : Operand) (t e : TypeId) (ho : o.op = .call { callee := .builtin .append, args := #[s, x], argTypes := #[t, t] })
    (E : Elt P e 1 bytes) (ht : P.underlying t = some (.slice e)) (n : Nat) (hn : n = l.length) (hs : a.eval s = .slice (some ⟨g, k, none⟩) n cap) (h : IRow w base g k cap l)
    (ad : Addr) (c : Nat) (y : Int) (hx : a.eval x = .slice (some ad) 1 c) (hy : w.cell? ad = some (.int .i64 y))
    (h63 : l.length + 1 ≤ maxLen) (hbytes : (l.length + 1) * bytes ≤ 140737488355328) (hbase : base ≤ w.heap.size) (H : Nat) (hH : w.heap.size = H)
    (hK : ∀ g' k' cap' w', IRow w' base g' k' cap' (l ++ [y]) → w.grownBy w' (some g) → (g' = g ∨ g' = H) → wpList P ops Q rest (a.put o.dst (.slice (some ⟨g', k', none⟩) (n + 1) cap')) w') :
    wpList P ops Q (o :: rest) a w :=
  wpList_plain hgd fun _ hK' => wp_ipush hgd s x t e ho E ht n hn hs h ad c y hx hy h63 hbytes hbase H hH fun g' k' cap' w' h1 h2 h3 => hK' _ _ (hK g' k' cap' w' h1 h2 h3)
end
end Go.Proofs.YthbnmehbhpakaaaGreatDoor
