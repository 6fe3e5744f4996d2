/-
  The map of a tree's lookups as a plain function, and what it keeps.
-/
import Derived.Test.YtkpbpnecmfadlaaGreatDoorLook
import Derived.Test.YtkpbpnecmfadlaaGreatDoorFormed
import Derived.Test.YtkpbpnecmfadlaaGreatDoorCheck
set_option autoImplicit false
set_option relaxedAutoImplicit false
set_option linter.unusedVariables false
set_option linter.unusedSimpArgs false
namespace Go.Proofs.YtkpbpnecmfadlaaGreatDoor
open Go.Rows Go.RowKit Go.Shelf Go.Sort

theorem findI_range (t : List Dir) (p : List ByteArray) : -1 ≤ findI t p ∧ findI t p < (t.length : Int) := by
  unfold findI
  rcases firstI_lt (fun d => eqB d.path p) t with h | ⟨j, h, hj, _⟩
  · rw [h.1]; omega
  · rw [h]; omega
theorem lookDown_range (t : List Dir) (p : List ByteArray) (s : ByteArray) : ∀ q, -1 ≤ lookDown t p s q ∧ lookDown t p s q < (t.length : Int) := by
  intro q
  induction q with
  | zero => unfold lookDown; omega
  | succ q ih =>
    unfold lookDown
    cases decide (0 ≤ findI t (p.take q ++ [s]))
    · exact ih
    · exact findI_range _ _
theorem lookI_range (t : List Dir) (i : Int) (s : ByteArray) : -1 ≤ lookI t i s ∧ lookI t i s < (t.length : Int) := by
  unfold lookI
  split
  · cases nameB s
    · show (-1 : Int) ≤ -1 ∧ (-1 : Int) < t.length; omega
    · exact lookDown_range _ _ _ _
  · omega

/-- which node a directory's package is -/
noncomputable def packIs (t : List Dir) (g : List Node) (q : Nat) (e : Nat) : Bool :=
  match t[q]?, g[e]? with
  | some d, some x => decide (d.pack.name = x.name) && eqB d.pack.ver x.ver
  | _, _ => false
theorem packIs_at {t : List Dir} {g : List Node} {q e : Nat} (h1 : q < t.length) (h2 : e < g.length) : packIs t g q e = (decide (t[q].pack.name = g[e].name) && eqB t[q].pack.ver g[e].ver) := by
  unfold packIs; rw [List.getElem?_eq_getElem h1, List.getElem?_eq_getElem h2]

abbrev MSt := List Int × List Nat
noncomputable def mapEdge (t : List Dir) (g : List Node) (a : Nat) (s : MSt) (e : Edge) : Option MSt :=
  if 0 ≤ lookI t a e.label ∧ packIs t g (lookI t a e.label).toNat e.to.toNat = true then
    (if s.1[(lookI t a e.label).toNat]? = some (-1) then some (s.1.set (lookI t a e.label).toNat e.to, s.2 ++ [(lookI t a e.label).toNat])
     else if s.1[(lookI t a e.label).toNat]? = some e.to then some s else none)
  else none
noncomputable def mapEdges (t : List Dir) (g : List Node) (a : Nat) : List Edge → MSt → Option MSt
  | [], s => some s
  | e :: es, s => match mapEdge t g a s e with
    | none => none
    | some s' => mapEdges t g a es s'
def edgesOf (g : List Node) (i : Int) : List Edge := match g[i.toNat]? with | some x => x.edges | none => []
noncomputable def mapLoop (t : List Dir) (g : List Node) : Nat → MSt → Option (List Int)
  | 0, _ => none
  | _ + 1, (m, []) => some m
  | f + 1, (m, a :: rest) => match mapEdges t g a (edgesOf g (m.getD a 0)) (m, rest) with
    | none => none
    | some s => mapLoop t g f s
noncomputable def mapNext (t : List Dir) (g : List Node) (f : Nat) : Option MSt → Option (List Int)
  | none => none
  | some s => mapLoop t g f s
theorem mapLoop_cons (t : List Dir) (g : List Node) (f : Nat) (m : List Int) (a : Nat) (rest : List Nat) : mapLoop t g (f + 1) (m, a :: rest) = mapNext t g f (mapEdges t g a (edgesOf g (m.getD a 0)) (m, rest)) := by
  rw [mapLoop]; cases mapEdges t g a (edgesOf g (m.getD a 0)) (m, rest) <;> rfl
theorem mapEdges_at (t : List Dir) (g : List Node) (a : Nat) {es : List Edge} {k : Nat} (h : k < es.length) (s : MSt) : mapEdges t g a (es.drop k) s = match mapEdge t g a s es[k] with | none => none | some s' => mapEdges t g a (es.drop (k + 1)) s' := by
  rw [List.drop_eq_getElem_cons h, mapEdges]
noncomputable def map0 (n : Nat) : MSt := (0 :: List.replicate (n - 1) (-1), [0])
/-- the answer: the map and the errno -/
noncomputable def mapR (t : List Dir) (g : List Node) : Option (List Int) × Int :=
  if checkE t ≠ 0 then (none, 42)
  else if formedB g = false then (none, 33)
  else match mapLoop t g (t.length + 1) (map0 t.length) with
    | none => (none, 42)
    | some m => (some m, 0)

/-- how many directories have no node yet -/
def freeN (m : List Int) : Nat := m.count (-1)
structure MInv (n : Nat) (gl : Nat) (s : MSt) : Prop where
  len : s.1.length = n
  rng : ∀ x ∈ s.1, -1 ≤ x ∧ x < (gl : Int)
  rest : ∀ r ∈ s.2, ∃ x, s.1[r]? = some x ∧ 0 ≤ x
theorem count_set_free : ∀ (m : List Int) (q : Nat) (v : Int), m[q]? = some (-1) → v ≠ -1 → freeN (m.set q v) + 1 = freeN m := by
  intro m
  induction m with
  | nil => intro q v h _; simp at h
  | cons x m ih =>
    intro q v h hv
    cases q with
    | zero =>
      simp at h
      subst h
      unfold freeN
      rw [List.set_cons_zero, List.count_cons_self, List.count_cons_of_ne hv]
    | succ q =>
      simp at h
      have := ih q v h hv
      unfold freeN at this ⊢
      rw [List.set_cons_succ, List.count_cons, List.count_cons]
      omega
theorem MInv.edge {n : Nat} {t : List Dir} {g : List Node} {a : Nat} {s s' : MSt} {e : Edge} (h : MInv n g.length s) (he : edgeB g.length e = true) (hm : mapEdge t g a s e = some s') :
    MInv n g.length s' ∧ freeN s'.1 + s'.2.length = freeN s.1 + s.2.length ∧ (∀ (r : Nat) (x : Int), s.1[r]? = some x → 0 ≤ x → s'.1[r]? = some x) := by
  unfold edgeB at he
  simp only [Bool.and_eq_true, decide_eq_true_eq] at he
  unfold mapEdge at hm
  split at hm
  · split at hm
    · rename_i hc hf
      injection hm with hm
      subst hm
      have hkeep : ∀ (r : Nat) (x : Int), s.1[r]? = some x → 0 ≤ x → (s.1.set (lookI t a e.label).toNat e.to)[r]? = some x := fun r x hr hx => by
        rw [List.getElem?_set_ne (by rintro rfl; rw [hf] at hr; injection hr with hr; omega)]; exact hr
      refine ⟨⟨by simpa using h.len, fun x hx => ?_, fun r hr => ?_⟩, ?_, hkeep⟩
      · rcases List.mem_or_eq_of_mem_set hx with hx | rfl
        · exact h.rng x hx
        · omega
      · rw [List.mem_append] at hr
        rcases hr with hr | hr
        · obtain ⟨x, h1, h2⟩ := h.rest r hr
          exact ⟨x, hkeep r x h1 h2, h2⟩
        · simp at hr
          subst hr
          refine ⟨e.to, ?_, by omega⟩
          rw [List.getElem?_set_self (List.getElem?_eq_some_iff.1 hf).1]
      · have := count_set_free s.1 _ e.to hf (by omega)
        show freeN (s.1.set _ e.to) + (s.2 ++ [_]).length = _
        rw [List.length_append, List.length_singleton]
        omega
    · split at hm
      · injection hm with hm
        subst hm
        exact ⟨h, rfl, fun _ _ h _ => h⟩
      · cases hm
  · cases hm
theorem MInv.edges {n : Nat} {t : List Dir} {g : List Node} {a : Nat} : ∀ {es : List Edge} {s s' : MSt}, MInv n g.length s → es.all (edgeB g.length) = true → mapEdges t g a es s = some s' →
    MInv n g.length s' ∧ freeN s'.1 + s'.2.length = freeN s.1 + s.2.length ∧ (∀ (r : Nat) (x : Int), s.1[r]? = some x → 0 ≤ x → s'.1[r]? = some x) := by
  intro es
  induction es with
  | nil => intro s s' h _ hm; rw [mapEdges] at hm; injection hm with hm; subst hm; exact ⟨h, rfl, fun _ _ h _ => h⟩
  | cons e es ih =>
    intro s s' h ha hm
    rw [List.all_cons, Bool.and_eq_true] at ha
    rw [mapEdges] at hm
    split at hm
    · cases hm
    · rename_i s1 hs1
      obtain ⟨h1, h2, h3⟩ := h.edge ha.1 hs1
      obtain ⟨h4, h5, h6⟩ := ih h1 ha.2 hm
      exact ⟨h4, by omega, fun r x hr hx => h6 r x (h3 r x hr hx) hx⟩
theorem MInv.start {n gl : Nat} (hn : 0 < n) (hg : 0 < gl) : MInv n gl (map0 n) ∧ freeN (map0 n).1 + (map0 n).2.length = n := by
  refine ⟨⟨by simp [map0]; omega, fun x hx => ?_, fun r hr => ?_⟩, ?_⟩
  · simp [map0] at hx
    rcases hx with rfl | ⟨_, rfl⟩ <;> omega
  · simp [map0] at hr
    subst hr
    exact ⟨0, rfl, Int.le_refl _⟩
  · simp [map0, freeN]
    omega
theorem formed_edges {g : List Node} (h : formedB g = true) : 0 < g.length ∧ ∀ x ∈ g, x.edges.all (edgeB g.length) = true := by
  unfold formedB at h
  simp only [Bool.and_eq_true, decide_eq_true_eq, List.all_eq_true] at h
  exact ⟨h.2, fun x hx => h.1 x hx⟩
theorem edgesOf_all {g : List Node} (h : formedB g = true) (i : Int) : (edgesOf g i).all (edgeB g.length) = true := by
  unfold edgesOf
  split
  · rename_i x hx
    exact (formed_edges h).2 x (List.mem_of_getElem? hx)
  · rfl
end Go.Proofs.YtkpbpnecmfadlaaGreatDoor
