/-
  Paths' texts in plain words: a text is at most one path's.
  A graph as a lock's text, in plain words: what may be, and the text.
  walkup.formed: do a graph's edges lead to places?
  The map of a tree's lookups as a plain function, and what it keeps.
  What a search finds; what a tree that may be has: the plain laws.
  Placing a graph, in plain words: what can be placed, how a directory's edges are settled, where a directory is put.
-/
import Derived.Test.YtminjjdnmpaaoaaGreatDoorPp15
import Derived.Test.YtminjjdnmpaaoaaGreatDoorPp13
import Derived.Test.YtminjjdnmpaaoaaGreatDoorPp07
import Derived.Test.YtminjjdnmpaaoaaGreatDoorPp04
import Derived.Test.YtminjjdnmpaaoaaGreatDoorPp18
import Derived.Test.YtminjjdnmpaaoaaGreatDoorPp17
import Derived.Lib.Hide
set_option autoImplicit false
set_option relaxedAutoImplicit false
set_option linter.unusedVariables false
set_option linter.unusedSimpArgs false
namespace Go.Proofs.YtminjjdnmpaaoaaGreatDoor

theorem nameC_slash {b : UInt8} (h : nameC b = true) : (b != 47) = true := by
  have H : ∀ b : UInt8, (!nameC b || (b != 47)) = true := all_bytes (by decide +kernel)
  have := H b
  rw [h] at this; simpa using this
theorem nameL_slash {l : List UInt8} (h : nameL l = true) : ∀ b ∈ l, (b != 47) = true := by
  cases l with
  | nil => intro b hb; cases hb
  | cons c t =>
    simp only [nameL, Bool.and_eq_true] at h
    intro b hb
    rcases List.mem_cons.1 hb with rfl | hb
    · exact nameC_slash (by unfold nameC; rw [h.1.1]; rfl)
    · exact nameC_slash (List.all_eq_true.1 h.1.2 b hb)
theorem joined_head : ∀ (t : List ByteArray), joined t = [] ∨ ∃ r, joined t = 47 :: r := by
  intro t
  cases t with
  | nil => exact .inl rfl
  | cons s t => exact .inr ⟨_, rfl⟩
theorem takeWhile_name {l r : List UInt8} (h : ∀ b ∈ l, (b != 47) = true) (hr : r = [] ∨ ∃ q, r = 47 :: q) : (l ++ r).takeWhile (· != 47) = l := by
  induction l with
  | nil =>
    rcases hr with rfl | ⟨q, rfl⟩
    · rfl
    · rfl
  | cons c l ih =>
    rw [List.cons_append, List.takeWhile_cons, if_pos (h c (by simp)), ih fun b hb => h b (by simp [hb])]
theorem joined_inj : ∀ {a b : List ByteArray}, a.all nameB = true → b.all nameB = true → joined a = joined b → a = b := by
  intro a
  induction a with
  | nil =>
    intro b _ _ h
    cases b with
    | nil => rfl
    | cons s t => cases h
  | cons s t ih =>
    intro b ha hb h
    cases b with
    | nil => cases h
    | cons u v =>
      rw [List.all_cons, Bool.and_eq_true] at ha hb
      rw [joined, joined, List.append_assoc, List.append_assoc] at h
      have h1 := List.append_cancel_left h
      have e1 := takeWhile_name (nameL_slash ha.1) (joined_head t)
      have e2 := takeWhile_name (nameL_slash hb.1) (joined_head v)
      rw [h1, e2] at e1
      rw [e1] at h1
      have h2 := List.append_cancel_left h1
      have hs : s = u := ByteArray.ext (Array.ext' e1.symm)
      rw [hs, ih ha.2 hb.2 h2]

end Go.Proofs.YtminjjdnmpaaoaaGreatDoor
set_option autoImplicit false
set_option relaxedAutoImplicit false
set_option linter.unusedVariables false
set_option linter.unusedSimpArgs false
namespace Go.Proofs.YtminjjdnmpaaoaaGreatDoor
open Go

/-! ### names that rise -/
def risesGo : Option ByteArray → List ByteArray → Bool
  | _, [] => true
  | p, s :: l => (nameB s && behind p s) && risesGo (some s) l
def prevAt (l : List ByteArray) : Nat → Option ByteArray
  | 0 => none
  | k + 1 => l[k]?
theorem risesGo_step {l : List ByteArray} {k : Nat} {s : ByteArray} (h : l[k]? = some s) : risesGo (prevAt l k) (l.drop k) = ((nameB s && behind (prevAt l k) s) && risesGo (prevAt l (k + 1)) (l.drop (k + 1))) := by
  obtain ⟨hk, e⟩ := List.getElem?_eq_some_iff.1 h
  rw [List.drop_eq_getElem_cons hk, e, risesGo]
  show _ = ((nameB s && behind (prevAt l k) s) && risesGo l[k]? (l.drop (k + 1)))
  rw [h]
theorem risesGo_done {l : List ByteArray} {k : Nat} {p : Option ByteArray} (h : l.length ≤ k) : risesGo p (l.drop k) = true := by
  rw [List.drop_eq_nil_of_le h]; rfl
theorem risesGo_names : ∀ {l : List ByteArray} {p : Option ByteArray}, risesGo p l = true → ∀ s ∈ l, nameB s = true
  | [], _, _, s, hs => by cases hs
  | x :: l, p, h, s, hs => by
    rw [risesGo, Bool.and_eq_true, Bool.and_eq_true] at h
    rcases List.mem_cons.1 hs with rfl | hs
    · exact h.1.1
    · exact risesGo_names h.2 s hs

/-! ### what may be -/
def pinNames (l : List Pin) : List ByteArray := l.map (·.name)
def edgeNames (l : List Edge) : List ByteArray := l.map (·.label)
def zeroV (v : Ver) : Bool := decide (v.major = 0) && (decide (v.minor = 0) && decide (v.patch = 0))
/-! ### the text -/
/-! ### how long it is -/
end Go.Proofs.YtminjjdnmpaaoaaGreatDoor
set_option autoImplicit false
set_option relaxedAutoImplicit false
set_option linter.unusedVariables false
set_option linter.unusedSimpArgs false
namespace Go.Proofs.YtminjjdnmpaaoaaGreatDoor
open Go.Rows Go.RowKit Go.Shelf Go.Sort

def edgeB (m : Nat) (e : Edge) : Bool := decide (1 ≤ e.to) && decide (e.to < (m : Int))
end Go.Proofs.YtminjjdnmpaaoaaGreatDoor
set_option autoImplicit false
set_option relaxedAutoImplicit false
set_option linter.unusedVariables false
set_option linter.unusedSimpArgs false
namespace Go.Proofs.YtminjjdnmpaaoaaGreatDoor
open Go.Rows Go.RowKit Go.Shelf Go.Sort

theorem findI_range (t : List Dir) (p : List ByteArray) : -1 ≤ findI t p ∧ findI t p < (t.length : Int) := by
  unfold findI
  rcases firstI_lt (fun d => eqB d.path p) t with h | ⟨j, h, hj, _⟩
  · rw [h.1]; omega
  · rw [h]; omega
theorem lookDown_range (t : List Dir) (p : List ByteArray) (s : ByteArray) : ∀ q, -1 ≤ lookDown t p s q ∧ lookDown t p s q < (t.length : Int) := by
  intro q
  induction q with
  | zero => unfold lookDown; omega
  | succ q ih =>
    unfold lookDown
    cases decide (0 ≤ findI t (p.take q ++ [s]))
    · exact ih
    · exact findI_range _ _
theorem lookI_range (t : List Dir) (i : Int) (s : ByteArray) : -1 ≤ lookI t i s ∧ lookI t i s < (t.length : Int) := by
  unfold lookI
  split
  · cases nameB s
    · show (-1 : Int) ≤ -1 ∧ (-1 : Int) < t.length; omega
    · exact lookDown_range _ _ _ _
  · omega

/-- which node a directory's package is -/
noncomputable def packIs (t : List Dir) (g : List Node) (q : Nat) (e : Nat) : Bool :=
  match t[q]?, g[e]? with
  | some d, some x => decide (d.pack.name = x.name) && eqB d.pack.ver x.ver
  | _, _ => false
abbrev MSt := List Int × List Nat
noncomputable def mapEdge (t : List Dir) (g : List Node) (a : Nat) (s : MSt) (e : Edge) : Option MSt :=
  if 0 ≤ lookI t a e.label ∧ packIs t g (lookI t a e.label).toNat e.to.toNat = true then
    (if s.1[(lookI t a e.label).toNat]? = some (-1) then some (s.1.set (lookI t a e.label).toNat e.to, s.2 ++ [(lookI t a e.label).toNat])
     else if s.1[(lookI t a e.label).toNat]? = some e.to then some s else none)
  else none
noncomputable def mapEdges (t : List Dir) (g : List Node) (a : Nat) : List Edge → MSt → Option MSt
  | [], s => some s
  | e :: es, s => match mapEdge t g a s e with
    | none => none
    | some s' => mapEdges t g a es s'
noncomputable def map0 (n : Nat) : MSt := (0 :: List.replicate (n - 1) (-1), [0])
/-- how many directories have no node yet -/
def freeN (m : List Int) : Nat := m.count (-1)
structure MInv (n : Nat) (gl : Nat) (s : MSt) : Prop where
  len : s.1.length = n
  rng : ∀ x ∈ s.1, -1 ≤ x ∧ x < (gl : Int)
  rest : ∀ r ∈ s.2, ∃ x, s.1[r]? = some x ∧ 0 ≤ x
theorem count_set_free : ∀ (m : List Int) (q : Nat) (v : Int), m[q]? = some (-1) → v ≠ -1 → freeN (m.set q v) + 1 = freeN m := by
  intro m
  induction m with
  | nil => intro q v h _; simp at h
  | cons x m ih =>
    intro q v h hv
    cases q with
    | zero =>
      simp at h
      subst h
      unfold freeN
      rw [List.set_cons_zero, List.count_cons_self, List.count_cons_of_ne hv]
    | succ q =>
      simp at h
      have := ih q v h hv
      unfold freeN at this ⊢
      rw [List.set_cons_succ, List.count_cons, List.count_cons]
      omega
theorem MInv.edge {n : Nat} {t : List Dir} {g : List Node} {a : Nat} {s s' : MSt} {e : Edge} (h : MInv n g.length s) (he : edgeB g.length e = true) (hm : mapEdge t g a s e = some s') :
    MInv n g.length s' ∧ freeN s'.1 + s'.2.length = freeN s.1 + s.2.length ∧ (∀ (r : Nat) (x : Int), s.1[r]? = some x → 0 ≤ x → s'.1[r]? = some x) := by
  unfold edgeB at he
  simp only [Bool.and_eq_true, decide_eq_true_eq] at he
  unfold mapEdge at hm
  split at hm
  · split at hm
    · rename_i hc hf
      injection hm with hm
      subst hm
      have hkeep : ∀ (r : Nat) (x : Int), s.1[r]? = some x → 0 ≤ x → (s.1.set (lookI t a e.label).toNat e.to)[r]? = some x := fun r x hr hx => by
        rw [List.getElem?_set_ne (by rintro rfl; rw [hf] at hr; injection hr with hr; omega)]; exact hr
      refine ⟨⟨by simpa using h.len, fun x hx => ?_, fun r hr => ?_⟩, ?_, hkeep⟩
      · rcases List.mem_or_eq_of_mem_set hx with hx | rfl
        · exact h.rng x hx
        · omega
      · rw [List.mem_append] at hr
        rcases hr with hr | hr
        · obtain ⟨x, h1, h2⟩ := h.rest r hr
          exact ⟨x, hkeep r x h1 h2, h2⟩
        · simp at hr
          subst hr
          refine ⟨e.to, ?_, by omega⟩
          rw [List.getElem?_set_self (List.getElem?_eq_some_iff.1 hf).1]
      · have := count_set_free s.1 _ e.to hf (by omega)
        show freeN (s.1.set _ e.to) + (s.2 ++ [_]).length = _
        rw [List.length_append, List.length_singleton]
        omega
    · split at hm
      · injection hm with hm
        subst hm
        exact ⟨h, rfl, fun _ _ h _ => h⟩
      · cases hm
  · cases hm
theorem MInv.edges {n : Nat} {t : List Dir} {g : List Node} {a : Nat} : ∀ {es : List Edge} {s s' : MSt}, MInv n g.length s → es.all (edgeB g.length) = true → mapEdges t g a es s = some s' →
    MInv n g.length s' ∧ freeN s'.1 + s'.2.length = freeN s.1 + s.2.length ∧ (∀ (r : Nat) (x : Int), s.1[r]? = some x → 0 ≤ x → s'.1[r]? = some x) := by
  intro es
  induction es with
  | nil => intro s s' h _ hm; rw [mapEdges] at hm; injection hm with hm; subst hm; exact ⟨h, rfl, fun _ _ h _ => h⟩
  | cons e es ih =>
    intro s s' h ha hm
    rw [List.all_cons, Bool.and_eq_true] at ha
    rw [mapEdges] at hm
    split at hm
    · cases hm
    · rename_i s1 hs1
      obtain ⟨h1, h2, h3⟩ := h.edge ha.1 hs1
      obtain ⟨h4, h5, h6⟩ := ih h1 ha.2 hm
      exact ⟨h4, by omega, fun r x hr hx => h6 r x (h3 r x hr hx) hx⟩
theorem MInv.start {n gl : Nat} (hn : 0 < n) (hg : 0 < gl) : MInv n gl (map0 n) ∧ freeN (map0 n).1 + (map0 n).2.length = n := by
  refine ⟨⟨by simp [map0]; omega, fun x hx => ?_, fun r hr => ?_⟩, ?_⟩
  · simp [map0] at hx
    rcases hx with rfl | ⟨_, rfl⟩ <;> omega
  · simp [map0] at hr
    subst hr
    exact ⟨0, rfl, Int.le_refl _⟩
  · simp [map0, freeN]
    omega
end Go.Proofs.YtminjjdnmpaaoaaGreatDoor
set_option autoImplicit false
set_option relaxedAutoImplicit false
set_option linter.unusedVariables false
set_option linter.unusedSimpArgs false
namespace Go.Proofs.YtminjjdnmpaaoaaGreatDoor
open Go.Rows Go.RowKit Go.Shelf Go.Sort

theorem firstGo_sound (q : Dir → Bool) : ∀ (t : List Dir) (k j : Nat), firstGo q t k = (j : Int) → ∃ i, ∃ h : i < t.length, j = k + i ∧ q t[i] = true := by
  intro t
  induction t with
  | nil => intro k j h; rw [firstGo] at h; omega
  | cons d t ih =>
    intro k j h
    rw [firstGo] at h
    cases hq : q d
    · rw [hq] at h
      obtain ⟨i, hi, e, hqi⟩ := ih (k + 1) j h
      exact ⟨i + 1, by simpa using hi, by omega, by simpa using hqi⟩
    · rw [hq] at h
      refine ⟨0, by simp, ?_, by simpa using hq⟩
      have : (k : Int) = (j : Int) := h
      omega
theorem findI_sound {t : List Dir} {p : List ByteArray} {j : Nat} (h : findI t p = (j : Int)) : ∃ hj : j < t.length, t[j].path = p := by
  unfold findI firstI at h
  obtain ⟨i, hi, e, hq⟩ := firstGo_sound _ t 0 j h
  obtain rfl : i = j := by omega
  refine ⟨hi, ?_⟩
  by_cases e : t[i].path = p
  · exact e
  · rw [eqB_false e] at hq; cases hq
theorem findI_none {t : List Dir} {p : List ByteArray} (h : findI t p < 0) {d : Dir} (hd : d ∈ t) : d.path ≠ p := by
  intro e
  unfold findI at h
  rcases firstI_lt (fun d => eqB d.path p) t with h' | ⟨j, h', _⟩
  · have := List.any_eq_false.1 h'.2 d hd
    rw [eqB_true e] at this
    exact this rfl
  · omega
end Go.Proofs.YtminjjdnmpaaoaaGreatDoor
set_option autoImplicit false
set_option relaxedAutoImplicit false
set_option linter.unusedVariables false
set_option linter.unusedSimpArgs false
namespace Go.Proofs.YtminjjdnmpaaoaaGreatDoor
open Go

/-! ### what can be placed -/
noncomputable def rootOk (n : Node) (x : Pack) : Bool := (n.name.toList == []) && (zeroV n.ver && (decide (n.ctx.length = 0) && eqB x zeroPack))
noncomputable def packOk (n : Node) (x : Pack) : Bool := packB x && (decide (x.name = n.name) && eqB x.ver n.ver)
noncomputable def headP (i : Nat) (n : Node) (x : Pack) : Bool := if i = 0 then rootOk n x else packOk n x
noncomputable def edgeP (g : List Node) (e : Edge) : Bool := decide (1 ≤ e.to) && (decide (e.to < (g.length : Int)) && match g[e.to.toNat]? with | some y => decide (y.name = e.label) | none => false)
/-- the place of the first edge of a label -/
def edgeIx : List Edge → ByteArray → Option Nat
  | [], _ => none
  | e :: l, s => if e.label = s then some 0 else (edgeIx l s).map (· + 1)
noncomputable def pinP (g : List Node) (es : List Edge) (q : Pin) : Bool := match edgeIx es q.name with
  | none => false
  | some k => match es[k]? with
    | none => false
    | some e => match g[e.to.toNat]? with
      | none => false
      | some y => eqB y.ver q.ver
noncomputable def formP (g : List Node) (i : Nat) (n : Node) (x : Pack) : Bool :=
  headP i n x && ((risesGo none (pinNames n.ctx) && risesGo none (edgeNames n.edges)) && (n.edges.all (edgeP g) && n.ctx.all (pinP g n.edges)))
noncomputable def formGo (g : List Node) : Nat → List Node → List Pack → Bool
  | i, n :: l, x :: m => formP g i n x && formGo g (i + 1) l m
  | _, [], [] => true
  | _, _, _ => false
noncomputable def mayPl (g : List Node) (ps : List Pack) : Bool := decide (1 ≤ g.length) && (decide (g.length ≤ 128) && (decide (ps.length = g.length) && formGo g 0 g ps))
theorem formGo_at (g : List Node) : ∀ {l : List Node} {m : List Pack} {i : Nat}, formGo g i l m = true → ∀ (j : Nat) (n : Node), l[j]? = some n → ∃ x, m[j]? = some x ∧ formP g (i + j) n x = true
  | [], _, _, _, j, n, h => by cases h
  | a :: l, [], i, hf, j, n, h => by simp [formGo] at hf
  | a :: l, b :: m, i, hf, 0, n, h => by
    rw [formGo, Bool.and_eq_true] at hf
    cases h
    exact ⟨b, rfl, hf.1⟩
  | a :: l, b :: m, i, hf, j + 1, n, h => by
    rw [formGo, Bool.and_eq_true] at hf
    obtain ⟨x, hx, hx2⟩ := formGo_at g hf.2 j n h
    exact ⟨x, hx, by rwa [show i + (j + 1) = i + 1 + j from by omega]⟩
theorem formGo_step (g : List Node) {l : List Node} {m : List Pack} {k : Nat} {n : Node} {x : Pack} (hl : l[k]? = some n) (hm : m[k]? = some x) : formGo g k (l.drop k) (m.drop k) = (formP g k n x && formGo g (k + 1) (l.drop (k + 1)) (m.drop (k + 1))) := by
  obtain ⟨h1, e1⟩ := List.getElem?_eq_some_iff.1 hl
  obtain ⟨h2, e2⟩ := List.getElem?_eq_some_iff.1 hm
  rw [List.drop_eq_getElem_cons h1, List.drop_eq_getElem_cons h2, e1, e2, formGo]
theorem formGo_done (g : List Node) {l : List Node} {m : List Pack} {k : Nat} (h1 : l.length ≤ k) (h2 : m.length ≤ k) : formGo g k (l.drop k) (m.drop k) = true := by
  rw [List.drop_eq_nil_of_le h1, List.drop_eq_nil_of_le h2]
  rfl

/-! ### the state -/
structure Stl where
  frm : Nat
  label : ByteArray
  dst : Nat
abbrev PlSt := List Dir × List Stl
def dirZ0 : Dir := ⟨[], ⟨⟨#[]⟩, ⟨0, 0, 0⟩, [], [], []⟩, 0⟩
def dirAt (T : List Dir) (i : Nat) : Dir := T.getD i dirZ0
def pathAt (T : List Dir) (i : Nat) : List ByteArray := (dirAt T i).path
noncomputable def underP (path above : List ByteArray) : Bool := decide (above.length ≤ path.length) && eqB (path.take above.length) above
def foundS (S : List Stl) (i : Nat) (s : ByteArray) : Int := match S with
  | [] => -1
  | x :: l => if x.frm = i ∧ x.label = s then (x.dst : Int) else foundS l i s
noncomputable def turnOne (T : List Dir) (home : Nat) (s : ByteArray) (x : Stl) : Bool := decide (x.label = s) && (underP (pathAt T x.frm) (pathAt T home) && decide ((pathAt T x.dst).length ≤ (pathAt T home).length))
noncomputable def turnsB (T : List Dir) (S : List Stl) (home : Nat) (s : ByteArray) : Bool := S.any (turnOne T home s)
noncomputable def likedB (old : Option (List Dir)) (inside : List ByteArray) (x : Pack) : Bool := match old with
  | none => false
  | some o => decide (0 ≤ findI o inside) && eqB (dirAt o (findI o inside).toNat).pack x
noncomputable def seesOne (T : List Dir) (S : List Stl) (at_ from_ : Nat) (q : Pin) : Bool := decide (0 ≤ foundS S from_ q.name) && decide (lookI T (at_ : Int) q.name = foundS S from_ q.name)
noncomputable def seesB (g : List Node) (T : List Dir) (S : List Stl) (at_ from_ : Nat) : Bool := match g[(dirAt T at_).node.toNat]? with
  | none => false
  | some n => n.ctx.all (seesOne T S at_ from_)

/-! ### where a directory is put -/
noncomputable def spotGo (T : List Dir) (S : List Stl) (old : Option (List Dir)) (path : List ByteArray) (s : ByteArray) (x : Pack) : Nat → Int × Int → Int × Int
  | 0, st => st
  | k + 1, (best, liked) =>
    if 0 ≤ findI T (path.take k ++ [s]) then (best, liked)
    else if turnsB T S (findI T (path.take k)).toNat s = true then spotGo T S old path s x k (best, liked)
    else spotGo T S old path s x k (findI T (path.take k), if likedB old (path.take k ++ [s]) x = true then findI T (path.take k) else liked)
def pickI (r : Int × Int) : Int := if 0 ≤ r.2 then r.2 else r.1
noncomputable def spotI (T : List Dir) (S : List Stl) (old : Option (List Dir)) (path : List ByteArray) (s : ByteArray) (x : Pack) : Int := pickI (spotGo T S old path s x (path.length + 1) (-1, -1))
/-- the document's: is a directory a spot -/
noncomputable def spotD (T : List Dir) (S : List Stl) (home from_ : Nat) (s : ByteArray) : Bool :=
  underP (pathAt T from_) (pathAt T home) && ((T.all fun d => !(underP d.path (pathAt T home) && (underP (pathAt T from_) d.path && decide (0 ≤ findI T (d.path ++ [s]))))) && !turnsB T S home s)
noncomputable def bestStep (T : List Dir) (S : List Stl) (old : Option (List Dir)) (from_ : Nat) (s : ByteArray) (x : Pack) (i : Nat) (st : Int × Bool) : Int × Bool :=
  let liked := likedB old (pathAt T i ++ [s]) x
  let nearer := decide (st.1 < 0) || decide ((pathAt T i).length < (pathAt T st.1.toNat).length)
  if spotD T S i from_ s = true ∧ ((liked = true ∧ st.2 = false) ∨ (liked = st.2 ∧ nearer = true)) then ((i : Int), liked) else st
noncomputable def bestGo (T : List Dir) (S : List Stl) (old : Option (List Dir)) (from_ : Nat) (s : ByteArray) (x : Pack) : Nat → Int × Bool
  | 0 => (-1, false)
  | i + 1 => bestStep T S old from_ s x i (bestGo T S old from_ s x i)
noncomputable def bestI (T : List Dir) (S : List Stl) (old : Option (List Dir)) (from_ : Nat) (s : ByteArray) (x : Pack) : Int := (bestGo T S old from_ s x T.length).1

/-! ### one edge, one directory, all -/
structure PlIn where
  g : List Node
  ps : List Pack
  dirs : Int
  path : Int
  old : Option (List Dir)
def packAt (q : PlIn) (i : Nat) : Pack := q.ps.getD i ⟨⟨#[]⟩, ⟨0, 0, 0⟩, [], [], []⟩
def nodeAt (q : PlIn) (i : Nat) : Node := q.g.getD i ⟨⟨#[]⟩, ⟨0, 0, 0⟩, [], []⟩
/-- a directory of a node more, in the modules of another one: its number -/
noncomputable def putP (q : PlIn) (T : List Dir) (home node : Nat) : Except Int (List Dir) :=
  if q.path < ((textB (pathAt T home ++ [(packAt q node).name])).size : Int) then .error 40
  else if q.dirs ≤ (T.length : Int) - 1 then .error 41
  else .ok (T ++ [⟨pathAt T home ++ [(packAt q node).name], packAt q node, (node : Int)⟩])
/-- of which kind an edge of a node is -/
noncomputable def kindP (q : PlIn) (n : Node) (e : Edge) : Nat := if (n.ctx.any fun x => decide (x.name = e.label)) = true then 1 else if (nodeAt q e.to.toNat).ctx.length = 0 then 2 else 3
noncomputable def rightP (q : PlIn) (st : PlSt) (at_ : Nat) (kind : Nat) (e : Edge) : Bool :=
  decide (0 ≤ lookI st.1 (at_ : Int) e.label) && (decide ((dirAt st.1 (lookI st.1 (at_ : Int) e.label).toNat).node = e.to) && (decide (kind ≠ 3) || seesB q.g st.1 st.2 (lookI st.1 (at_ : Int) e.label).toNat at_))
noncomputable def homeP (q : PlIn) (st : PlSt) (at_ : Nat) (kind : Nat) (e : Edge) : Int :=
  if kind = 2 then spotI st.1 st.2 q.old (pathAt st.1 at_) e.label (packAt q e.to.toNat) else (at_ : Int)
noncomputable def stepE (q : PlIn) (at_ : Nat) (kind : Nat) (e : Edge) (st : PlSt) : Except Int PlSt :=
  if rightP q st at_ kind e = true then .ok (st.1, st.2 ++ [⟨at_, e.label, (lookI st.1 (at_ : Int) e.label).toNat⟩])
  else if kind = 1 then .error 33
  else match putP q st.1 (homeP q st at_ kind e).toNat e.to.toNat with
    | .error c => .error c
    | .ok T => .ok (T, st.2 ++ [⟨at_, e.label, st.1.length⟩])
/-- the edges of one kind -/
noncomputable def kindGo (q : PlIn) (at_ : Nat) (n : Node) (kind : Nat) : List Edge → PlSt → Except Int PlSt
  | [], st => .ok st
  | e :: l, st => if kindP q n e = kind then (match stepE q at_ kind e st with
      | .error c => .error c
      | .ok st' => kindGo q at_ n kind l st') else kindGo q at_ n kind l st
noncomputable def kindsGo (q : PlIn) (at_ : Nat) (n : Node) : List Nat → PlSt → Except Int PlSt
  | [], st => .ok st
  | k :: l, st => match kindGo q at_ n k n.edges st with
    | .error c => .error c
    | .ok st' => kindsGo q at_ n l st'
noncomputable def dirP (q : PlIn) (at_ : Nat) (st : PlSt) : Except Int PlSt := kindsGo q at_ (nodeAt q (dirAt st.1 at_).node.toNat) [1, 2, 3] st
noncomputable def dirsP (q : PlIn) : Nat → Nat → PlSt → Except Int PlSt
  | 0, _, st => .ok st
  | f + 1, at_, st => if at_ < st.1.length then (match dirP q at_ st with
      | .error c => .error c
      | .ok st' => dirsP q f (at_ + 1) st') else .ok st
noncomputable def badOld : Option (List Dir) → Bool
  | none => false
  | some o => decide (checkE o ≠ 0)
noncomputable def placeE (q : PlIn) : Except Int PlSt :=
  if q.dirs < 1 ∨ 256 < q.dirs ∨ q.path < 1 ∨ 1024 < q.path then .error 1
  else if badOld q.old = true then .error 42
  else if mayPl q.g q.ps = false then .error 33
  else dirsP q 258 0 ([dirZ0], [])
end Go.Proofs.YtminjjdnmpaaoaaGreatDoor
