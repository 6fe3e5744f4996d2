/-
  Rows that are written over: what stays while the cells of ranges and names change. What is read without an error may be.
-/
import Derived.Test.YtldjldkejjeamaaGreatDoorPackE
import Derived.Test.YtldjldkejjeamaaGreatDoorSame
import Derived.Test.YtldjldkejjeamaaGreatDoorSParse
set_option autoImplicit false
set_option relaxedAutoImplicit false
set_option linter.unusedVariables false
set_option linter.unusedSimpArgs false
namespace Go.Proofs.YtldjldkejjeamaaGreatDoor
open Go.Rows Go.RowKit Go.Shelf Go.Sort

/-- a list's row, and the rows of its ranges: what stays while their cells change -/
def AgainR (g : Nat) (S : Nat → Prop) (sz : Nat → Nat) (m : Nat) (vs : Nat → Value) (W : World) : Prop :=
  (∃ cs, W.heap[g]? = some (.cells cs 38 (0, 0)) ∧ ∀ i, i < m → cs[i * 2 + 1]? = some (vs i) ∧ ∃ x, cs[i * 2]? = some x) ∧
  ∀ b, S b → b ≠ g ∧ ∃ cs t, W.heap[b]? = some (.cells cs t (0, 0)) ∧ cs.size = sz b
/-- a range's value -/
def AgainV (S : Nat → Prop) (sz : Nat → Nat) (v : Value) : Prop :=
  ∃ A n c, v = .slice A n c ∧ n ≤ maxLen ∧ (0 < n → ∃ b o, A = some ⟨b, o, none⟩ ∧ S b ∧ o + n * 6 ≤ sz b)
section
variable {g : Nat} {S : Nat → Prop} {sz : Nat → Nat} {m : Nat} {vs : Nat → Value} {W : World}
theorem heap_other {b c o : Nat} (h : b ≠ c) (x : Value) : (W.setCell ⟨b, o, none⟩ x).heap[c]? = W.heap[c]? := by
  show (W.heap.modify b _)[c]? = _
  rw [Array.getElem?_modify, if_neg h]
theorem AgainR.setS (h : AgainR g S sz m vs W) {b : Nat} (hb : S b) (o : Nat) (x : Value) : AgainR g S sz m vs (W.setCell ⟨b, o, none⟩ x) := by
  obtain ⟨⟨cs, h1, h2⟩, h3⟩ := h
  refine ⟨⟨cs, by rw [heap_other (h3 b hb).1]; exact h1, h2⟩, fun c hc => ⟨(h3 c hc).1, ?_⟩⟩
  obtain ⟨ds, t, h4, h5⟩ := (h3 c hc).2
  by_cases e : b = c
  · subst e
    exact ⟨_, t, heap_set1 h4 x, by rw [Array.size_setIfInBounds]; exact h5⟩
  · exact ⟨ds, t, by rw [heap_other e]; exact h4, h5⟩
theorem AgainR.setG (h : AgainR g S sz m vs W) (k : Nat) (x : Value) : AgainR g S sz m vs (W.setCell ⟨g, k * 2, none⟩ x) := by
  obtain ⟨⟨cs, h1, h2⟩, h3⟩ := h
  refine ⟨⟨_, heap_set1 h1 x, fun i hi => ?_⟩, fun c hc => ⟨(h3 c hc).1, ?_⟩⟩
  · obtain ⟨h4, y, h5⟩ := h2 i hi
    constructor
    · rw [Array.getElem?_setIfInBounds, if_neg (by omega)]
      exact h4
    · rw [Array.getElem?_setIfInBounds]
      split
      · split
        · exact ⟨_, rfl⟩
        · have := (Array.getElem?_eq_some_iff.1 h5).1
          omega
      · exact ⟨y, h5⟩
  · obtain ⟨ds, t, h4, h5⟩ := (h3 c hc).2
    exact ⟨ds, t, by rw [heap_other (Ne.symm (h3 c hc).1)]; exact h4, h5⟩
theorem AgainR.range (h : AgainR g S sz m vs W) {i : Nat} (hi : i < m) : W.cell? ⟨g, i * 2 + 1, none⟩ = some (vs i) := by
  obtain ⟨⟨cs, h1, h2⟩, _⟩ := h
  rw [cell_of_row W g _ cs _ _ h1]
  exact (h2 i hi).1
theorem AgainR.name (h : AgainR g S sz m vs W) {i : Nat} (hi : i < m) : ∃ x, W.cell? ⟨g, i * 2, none⟩ = some x ∧ W.frozen? ⟨g, i * 2, none⟩ = false := by
  obtain ⟨⟨cs, h1, h2⟩, _⟩ := h
  obtain ⟨x, hx⟩ := (h2 i hi).2
  exact ⟨x, by rw [cell_of_row W g _ cs _ _ h1]; exact hx, by simp [World.frozen?, h1]⟩
theorem AgainR.spot (h : AgainR g S sz m vs W) {b k : Nat} (hb : S b) (hk : k < sz b) : ∃ x, W.cell? ⟨b, k, none⟩ = some x ∧ W.frozen? ⟨b, k, none⟩ = false := by
  obtain ⟨_, ds, t, h4, h5⟩ := h.2 b hb
  refine ⟨ds[k], by rw [cell_of_row W b _ ds _ _ h4]; exact Array.getElem?_eq_getElem (by omega), by simp [World.frozen?, h4]⟩
theorem AgainR.keep {W' : World} (h : AgainR g S sz m vs W) (hb : Below W.heap.size W W') : AgainR g S sz m vs W' := by
  obtain ⟨⟨cs, h1, h2⟩, h3⟩ := h
  refine ⟨⟨cs, (hb.block _ (Array.getElem?_eq_some_iff.1 h1).1).trans h1, h2⟩, fun c hc => ⟨(h3 c hc).1, ?_⟩⟩
  obtain ⟨ds, t, h4, h5⟩ := (h3 c hc).2
  exact ⟨ds, t, (hb.block _ (Array.getElem?_eq_some_iff.1 h4).1).trans h4, h5⟩
end
theorem again_of {w : World} {B : Nat} {v : Value} {l : List Dep} {S : Nat → Prop} (h : Own rDep w B 38 v l S) (hf : ∀ b, S b → Fresh B w b) :
    ∃ g A c sz vs, v = .slice A l.length c ∧ l.length ≤ maxLen ∧ (0 < l.length → A = some ⟨g, 0, none⟩ ∧ B ≤ g ∧ g < w.heap.size ∧ AgainR g S sz l.length vs w) ∧ ∀ i, i < l.length → AgainV S sz (vs i) := by
  obtain ⟨h0, xs, h1, h2⟩ := h
  have h1' := h1
  rcases h1.2 with ⟨rfl, hn⟩ | ⟨g, cap, cur, rfl, hb, hg, hnc, hcm, hsz, htake⟩
  · rw [hn]
    exact ⟨0, none, 0, fun _ => 0, fun _ => .slice none 0 0, rfl, by decide, fun h => absurd h (by decide), fun i hi => absurd hi (by omega)⟩
  · obtain ⟨sz, hsz'⟩ : ∃ sz : Nat → Nat, sz = fun b => match w.heap[b]? with | some (.cells cs _ _) => cs.size | _ => 0 := ⟨_, rfl⟩
    have hS : ∀ b, S b → ∃ cs t, w.heap[b]? = some (.cells cs t (0, 0)) ∧ cs.size = sz b := fun b hs => by
      obtain ⟨_, cs, t, hl⟩ := hf b hs
      exact ⟨cs, t, hl, by rw [hsz']; simp only [hl]⟩
    have key : ∀ i, i < l.length → ∃ u x, cur[i * 2 + 1]? = some u ∧ cur[i * 2]? = some x ∧ AgainV S sz u := fun i hi => by
      obtain ⟨cs, ⟨s0, hc, _, hs⟩, hcell⟩ := h2.get i _ (List.getElem?_eq_getElem hi)
      have hadd : ∀ k, (⟨g, 0, none⟩ : Addr).add k = ⟨g, k, none⟩ := fun k => by unfold Addr.add; split <;> simp_all
      have e0 := h1'.cells (g := g) rfl _ _ (hcell 0 _ (by rw [hc]; rfl))
      have e1 := h1'.cells (g := g) rfl _ _ (hcell 1 _ (by rw [hc]; rfl))
      rw [hadd, cell_of_row w g _ cur _ _ hg] at e0 e1
      refine ⟨_, _, e1, e0, ?_⟩
      obtain ⟨A, c, rfl, hlc, hcm'⟩ := hs.val
      refine ⟨A, _, c, rfl, by omega, fun h => ?_⟩
      obtain ⟨b, o, ds, hA, hSb, _, hd, hcl⟩ := hs.elem (List.getElem?_eq_getElem (Nat.sub_lt h Nat.one_pos))
      refine ⟨b, o, hA, hSb, ?_⟩
      obtain ⟨es, t, hh, hz⟩ := hS b hSb
      have e5 := hcl 5 _ (by rw [hd.1]; rfl)
      rw [cell_of_row w b _ es _ _ hh] at e5
      have := (Array.getElem?_eq_some_iff.1 e5).1
      rw [← hz]
      have e6 : (l[i].range.length - 1) * rSpn.size = (l[i].range.length - 1) * 6 := rfl
      rw [e6] at this
      omega
    refine ⟨g, some ⟨g, 0, none⟩, cap, sz, fun i => (cur[i * 2 + 1]?).getD undef, rfl, by omega, fun _ => ⟨rfl, hb, (Array.getElem?_eq_some_iff.1 hg).1, ⟨cur, hg, fun i hi => ?_⟩, fun b hs => ⟨fun e => (h0 b hs).2 (by rw [e]; rfl), hS b hs⟩⟩, fun i hi => ?_⟩
    · obtain ⟨u, x, k1, k2, _⟩ := key i hi
      exact ⟨by show _ = some ((cur[i * 2 + 1]?).getD undef); rw [k1]; rfl, x, k2⟩
    · obtain ⟨u, x, k1, k2, k3⟩ := key i hi
      show AgainV S sz ((cur[i * 2 + 1]?).getD undef)
      rw [k1]
      exact k3

theorem lists_good (order : List ByteArray) : ∀ (ws : List (List ByteArray)) (st : Nat × List (List Dep)), (∀ e, listsE order ws st = .error e → e ≠ 0) ∧ (∀ x, listsE order ws st = .ok x → x.length = st.2.length)
  | [], st => by
    rw [listsE]
    exact ⟨(fun e h => by cases h), (fun x h => by cases h; rfl)⟩
  | w :: ws, st => by
    rw [listsE]
    unfold listsStep
    split
    · rename_i e he
      refine ⟨fun e' h => ?_, (fun x h => by cases h)⟩
      cases h
      split at he
      · cases he; decide
      · split at he
        · rename_i e2 hd
          cases he
          exact depE_err hd
        · cases he
    · rename_i st' hs
      have ih := lists_good order ws st'
      refine ⟨ih.1, fun x h => ?_⟩
      rw [ih.2 x h]
      split at hs
      · cases hs
      · split at hs
        · cases hs
        · cases hs
          simp
theorem packE_err {t : ByteArray} {k : Int} (h : packE t = .error k) : k ≠ 0 := by
  unfold packE at h
  split at h
  · rename_i h0; cases h; exact h0
  · split at h
    · split at h
      · cases h; decide
      · split at h
        · cases h; decide
        · split at h
          · cases h; decide
          · split at h
            · rename_i e he
              cases h
              exact (lists_good _ _ _).1 _ he
            · split at h
              · cases h
              · cases h; decide
            · rename_i x hno hx
              have := (lists_good _ _ _).2 _ hx
              match x, this, hno with
              | [d, p, o], _, hno => exact absurd rfl (hno d p o)
    · cases h; decide
/-- read with an error: nothing; without: what may be, and its text is read as the same -/
theorem packQ_two (t : ByteArray) : (∃ k, packQ t = (packZ, k) ∧ k ≠ 0) ∨ ∃ p, packQ t = (p, 0) ∧ packB p = true := by
  unfold packQ
  cases h : packE t with
  | error k => exact .inl ⟨k, rfl, packE_err h⟩
  | ok p => exact .inr ⟨p, rfl, packE_ok h⟩
theorem PackV.turn {W W' : World} {X S : Nat → Prop} {p : Pack} {v : Value} (h : PackV W S p v) (ht : Turn X W W') (hx : ∀ b, S b → ¬ X b) : PackV W' S p v := by
  obtain ⟨A0, n0, c0, A1, n1, c1, A2, n2, c2, h0, h1, h2, h3, h4⟩ := h
  exact ⟨A0, n0, c0, A1, n1, c1, A2, n2, c2, h0, h1, (rSlice rDep).mono h2 fun b hb hl => ⟨hb, ht.block b hl (hx b hb)⟩, (rSlice rDep).mono h3 fun b hb hl => ⟨hb, ht.block b hl (hx b hb)⟩, (rSlice rDep).mono h4 fun b hb hl => ⟨hb, ht.block b hl (hx b hb)⟩⟩
theorem fresh_lt {B b : Nat} {w : World} (h : Fresh B w b) : b < w.heap.size := live_lt h.2
end Go.Proofs.YtldjldkejjeamaaGreatDoor
