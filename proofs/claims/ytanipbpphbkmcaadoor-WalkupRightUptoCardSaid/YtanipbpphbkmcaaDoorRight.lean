/-
  A map is right: the plain law.
-/
import Derived.Test.YtanipbpphbkmcaaDoorMapP
set_option autoImplicit false
set_option relaxedAutoImplicit false
set_option linter.unusedVariables false
set_option linter.unusedSimpArgs false
namespace Go.Proofs.YtanipbpphbkmcaaDoor
open Go.Rows Go.RowKit Go.Shelf Go.Sort

/-- an edge leads where the map says -/
def edgeOk (t : List Dir) (g : List Node) (m : List Int) (i : Nat) (e : Edge) : Prop :=
  0 ≤ lookI t i e.label ∧ packIs t g (lookI t i e.label).toNat e.to.toNat = true ∧ m[(lookI t i e.label).toNat]? = some e.to
def nodeOk (t : List Dir) (g : List Node) (m : List Int) (i : Nat) : Prop := ∀ e ∈ edgesOf g (m.getD i 0), edgeOk t g m i e
structure RightI (t : List Dir) (g : List Node) (s : MSt) : Prop where
  zero : s.1[0]? = some 0
  done : ∀ (i : Nat) (x : Int), s.1[i]? = some x → 0 ≤ x → i ∈ s.2 ∨ nodeOk t g s.1 i

theorem edgeOk_mono {t : List Dir} {g : List Node} {m m' : List Int} {i : Nat} {e : Edge} (hto : 0 ≤ e.to) (h : edgeOk t g m i e) (hm : ∀ (r : Nat) (x : Int), m[r]? = some x → 0 ≤ x → m'[r]? = some x) : edgeOk t g m' i e :=
  ⟨h.1, h.2.1, hm _ _ h.2.2 hto⟩
theorem mapEdge_ok {t : List Dir} {g : List Node} {a : Nat} {s s' : MSt} {e : Edge} (hm : mapEdge t g a s e = some s') : edgeOk t g s'.1 a e := by
  unfold mapEdge at hm
  split at hm
  · rename_i hc
    split at hm
    · rename_i hf
      injection hm with hm
      subst hm
      exact ⟨hc.1, hc.2, List.getElem?_set_self (List.getElem?_eq_some_iff.1 hf).1⟩
    · split at hm
      · rename_i hf
        injection hm with hm
        subst hm
        exact ⟨hc.1, hc.2, hf⟩
      · cases hm
  · cases hm
/-- what an edge leaves: new entries are put behind the rest -/
theorem mapEdge_new {t : List Dir} {g : List Node} {a : Nat} {s s' : MSt} {e : Edge} (hm : mapEdge t g a s e = some s') :
    (∀ (i : Nat) (x : Int), s'.1[i]? = some x → 0 ≤ x → s.1[i]? = some x ∨ i ∈ s'.2) ∧ (∀ r ∈ s.2, r ∈ s'.2) := by
  unfold mapEdge at hm
  split at hm
  · split at hm
    · injection hm with hm
      subst hm
      refine ⟨fun i x hi hx => ?_, fun r hr => List.mem_append_left _ hr⟩
      by_cases h : (lookI t a e.label).toNat = i
      · exact .inr (by rw [h]; simp)
      · rw [List.getElem?_set_ne h] at hi
        exact .inl hi
    · split at hm
      · injection hm with hm
        subst hm
        exact ⟨fun i x hi _ => .inl hi, fun r hr => hr⟩
      · cases hm
  · cases hm
theorem mapEdges_right {n : Nat} {t : List Dir} {g : List Node} {a : Nat} : ∀ {es : List Edge} {s s' : MSt}, MInv n g.length s → es.all (edgeB g.length) = true → mapEdges t g a es s = some s' →
    (∀ e ∈ es, edgeOk t g s'.1 a e) ∧ (∀ (i : Nat) (x : Int), s'.1[i]? = some x → 0 ≤ x → s.1[i]? = some x ∨ i ∈ s'.2) ∧ (∀ r ∈ s.2, r ∈ s'.2) := by
  intro es
  induction es with
  | nil =>
    intro s s' _ _ hm
    rw [mapEdges] at hm; injection hm with hm; subst hm
    exact ⟨fun _ h => (by cases h), fun i x hi _ => .inl hi, fun r hr => hr⟩
  | cons e es ih =>
    intro s s' h ha hm
    rw [List.all_cons, Bool.and_eq_true] at ha
    rw [mapEdges] at hm
    split at hm
    · cases hm
    · rename_i s1 hs1
      obtain ⟨h1, _, _⟩ := h.edge ha.1 hs1
      obtain ⟨_, _, h6⟩ := h1.edges ha.2 hm
      obtain ⟨h7, h8, h9⟩ := ih h1 ha.2 hm
      obtain ⟨n1, n2⟩ := mapEdge_new hs1
      have hto : 0 ≤ e.to := by have := ha.1; unfold edgeB at this; simp only [Bool.and_eq_true, decide_eq_true_eq] at this; omega
      refine ⟨fun e' he' => ?_, fun i x hi hx => ?_, fun r hr => h9 r (n2 r hr)⟩
      · rcases List.mem_cons.1 he' with rfl | he'
        · exact edgeOk_mono hto (mapEdge_ok hs1) h6
        · exact h7 e' he'
      · rcases h8 i x hi hx with h | h
        · rcases n1 i x h hx with h' | h'
          · exact .inl h'
          · exact .inr (h9 i h')
        · exact .inr h
theorem mapLoop_right {n : Nat} {t : List Dir} {g : List Node} (hf : formedB g = true) : ∀ (f : Nat) (s : MSt) (m : List Int), MInv n g.length s → RightI t g s → mapLoop t g f s = some m →
    MInv n g.length (m, []) ∧ RightI t g (m, []) := by
  intro f
  induction f with
  | zero => intro s m _ _ h; rw [mapLoop] at h; cases h
  | succ f ih =>
    rintro ⟨m0, rest⟩ m hi hr h
    cases rest with
    | nil => rw [mapLoop] at h; injection h with h; subst h; exact ⟨hi, hr⟩
    | cons a rest =>
      rw [mapLoop] at h
      split at h
      · cases h
      · rename_i s1 hs1
        have hi' : MInv n g.length (m0, rest) := ⟨hi.len, hi.rng, fun r hrr => hi.rest r (List.mem_cons_of_mem _ hrr)⟩
        have hall := edgesOf_all hf (m0.getD a 0)
        obtain ⟨h1, h2, h3⟩ := hi'.edges hall hs1
        obtain ⟨h4, h5, h6⟩ := mapEdges_right hi' hall hs1
        refine ih s1 m h1 ⟨h3 0 0 hr.zero (Int.le_refl _), fun i x hx h0 => ?_⟩ h
        by_cases hia : i = a
        · subst hia
          obtain ⟨y, hy, hy0⟩ := hi.rest i (by simp)
          have hy' := h3 i y hy hy0
          refine .inr fun e he => h4 e ?_
          rw [List.getD_eq_getElem?_getD, hy'] at he
          rw [List.getD_eq_getElem?_getD, show m0[i]? = some y from hy]
          exact he
        · rcases h5 i x hx h0 with h' | h'
          · rcases hr.done i x h' h0 with h'' | h''
            · rcases List.mem_cons.1 h'' with h''' | h'''
              · exact absurd h''' hia
              · exact .inl (h6 i h''')
            · refine .inr fun e he => ?_
              have hx' := h3 i x h' h0
              have he' : e ∈ edgesOf g (m0.getD i 0) := by
                rw [List.getD_eq_getElem?_getD, hx'] at he
                rw [List.getD_eq_getElem?_getD, show m0[i]? = some x from h']
                exact he
              have hto : 0 ≤ e.to := by
                have := List.all_eq_true.1 (edgesOf_all hf (m0.getD i 0)) e he'
                unfold edgeB at this; simp only [Bool.and_eq_true, decide_eq_true_eq] at this; omega
              exact edgeOk_mono hto (h'' e he') h3
          · exact .inl h'
theorem checkE_len {t : List Dir} (h : checkE t = 0) : 0 < t.length := by
  rcases Nat.eq_zero_or_pos t.length with h0 | h0
  · exfalso
    have e : checkE t = 42 := by unfold checkE; rw [if_pos (.inl (by omega))]
    rw [e] at h
    exact absurd h (by decide)
  · exact h0
/-- a map is right -/
theorem mapR_right {t : List Dir} {g : List Node} {m : List Int} (h : mapR t g = (some m, 0)) :
    m.length = t.length ∧ m[0]? = some 0 ∧ (∀ x ∈ m, -1 ≤ x ∧ x < (g.length : Int)) ∧ ∀ (i : Nat) (x : Int), m[i]? = some x → 0 ≤ x → ∀ e ∈ edgesOf g x, edgeOk t g m i e ∧ 0 ≤ e.to := by
  unfold mapR at h
  split at h
  · cases h
  · rename_i hc
    split at h
    · cases h
    · rename_i hfm
      split at h
      · cases h
      · rename_i m' hm'
        simp only [Prod.mk.injEq, Option.some.injEq, and_true] at h
        subst h
        have hf : formedB g = true := by simpa using hfm
        have hc0 : checkE t = 0 := by simpa using hc
        have hn := checkE_len hc0
        obtain ⟨hs, _⟩ := MInv.start (n := t.length) (gl := g.length) hn (formed_edges hf).1
        have hst : RightI t g (map0 t.length) := ⟨rfl, fun i x hx h0 => by
          cases i with
          | zero => exact .inl (by simp [map0])
          | succ i =>
            have : (List.replicate (t.length - 1) (-1 : Int))[i]? = some x := hx
            rw [List.getElem?_replicate] at this
            split at this
            · injection this with this; omega
            · cases this⟩
        obtain ⟨h1, h2⟩ := mapLoop_right hf _ _ _ hs hst hm'
        refine ⟨h1.len, h2.zero, h1.rng, fun i x hx h0 e he => ?_⟩
        rcases h2.done i x hx h0 with h3 | h3
        · cases h3
        · refine ⟨h3 e (by rw [List.getD_eq_getElem?_getD, show m'[i]? = some x from hx]; exact he), ?_⟩
          have := List.all_eq_true.1 (edgesOf_all hf x) e he
          unfold edgeB at this; simp only [Bool.and_eq_true, decide_eq_true_eq] at this; omega
end Go.Proofs.YtanipbpphbkmcaaDoor
