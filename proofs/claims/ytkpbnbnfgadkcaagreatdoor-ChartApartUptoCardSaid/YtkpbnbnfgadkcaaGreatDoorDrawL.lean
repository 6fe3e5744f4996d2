/-
  A tree's drawing as spots: what the four statements ask of it; the plain laws.
-/
import Derived.Test.YtkpbnbnfgadkcaaGreatDoorDrawP
import Derived.Test.YtkpbnbnfgadkcaaGreatDoorAlike
import Derived.Test.YtkpbnbnfgadkcaaGreatDoorChartE
set_option autoImplicit false
set_option relaxedAutoImplicit false
set_option linter.unusedVariables false
set_option linter.unusedSimpArgs false
namespace Go.Proofs.YtkpbnbnfgadkcaaGreatDoor
open Go.Rows Go.RowKit Go.Shelf Go.Sort

def pathL (t : List Dir) (j : Nat) : List ByteArray := match t[j]? with | some d => d.path | none => []
theorem pathL_at {t : List Dir} {j : Nat} (h : j < t.length) : pathL t j = t[j].path := by unfold pathL; rw [List.getElem?_eq_getElem h]
def spF (t : List Dir) (e : Nat × Nat) : Spot := ⟨pathL t e.1, (dep t e.1 : Int), (e.2 : Int)⟩
noncomputable def drawS (t : List Dir) : List Spot := (drawF t t.length 0 0).map (spF t)
noncomputable def drawnR (t : List Dir) (q : Int) : Option (List Spot) := if checkE t = 0 then some ((drawS t).map (turnF q)) else none
def codeT {α : Type} (r : Option α) : Int := if r.isSome then 0 else 42
/-- what a call that answers a tree's drawing and an error leaves -/
def DrawnT (w : World) (res : Option (List Spot)) (e : Ending) (w' : World) : Prop :=
  ∃ v, e = .returned (.tuple #[v, .int .i64 (codeT res)]) ∧ SlV rSpot w' (fun _ => True) (res.getD []) v ∧ Below w.heap.size w w'

theorem check_len {t : List Dir} (h : checkE t = 0) : 0 < t.length ∧ t.length ≤ 257 := by
  unfold checkE at h
  split at h
  · cases h
  · omega
theorem dep_le {t : List Dir} (h : checkE t = 0) : ∀ n j, j < n → j < t.length → dep t j ≤ j := by
  intro n
  induction n with
  | zero => intro j hj; omega
  | succ n ih =>
    intro j hjn hj
    rcases Nat.eq_zero_or_pos j with h0 | h0
    · subst h0; rw [dep_at hj, root_of h hj]; simp
    · obtain ⟨g1, g2⟩ := stands_above h hj h0
      have hne := (stands_of h hj h0).1
      obtain ⟨m, hm⟩ : ∃ m, t[j].path.length = m + 1 := ⟨t[j].path.length - 1, by have := List.length_pos_iff.2 hne; omega⟩
      obtain ⟨p, hp⟩ : ∃ p : Nat, aboveI t t[j].path = (p : Int) := ⟨(aboveI t t[j].path).toNat, by omega⟩
      rw [aboveI_take t hm] at hp
      obtain ⟨hpt, hpp⟩ := findI_sound hp
      have hpl : t[p].path.length = m := by rw [hpp, List.length_take]; omega
      rw [aboveI_take t hm, hp] at g2
      have := ih p (by omega) hpt
      rw [dep_at hpt] at this
      rw [dep_at hj]
      omega
theorem drawF_small {t : List Dir} (h : checkE t = 0) {e : Nat × Nat} (he : e ∈ drawF t t.length 0 0) : e.1 < t.length ∧ dep t e.1 ≤ 256 ∧ e.2 < t.length := by
  obtain ⟨h0, h1⟩ := check_len h
  have g := draw_in h _ 0 0 h0 e he
  have h2 := dep_le h (e.1 + 1) e.1 (by omega) g.lt
  have h3 := rows_le h h0
  have := g.hi
  have := g.lt
  exact ⟨g.lt, by omega, by omega⟩
theorem drawS_small {t : List Dir} (h : checkE t = 0) {s : Spot} (hs : s ∈ drawS t) : 0 ≤ s.x ∧ s.x ≤ 256 ∧ 0 ≤ s.y ∧ s.y < t.length ∧ s.x = s.path.length := by
  obtain ⟨e, he, rfl⟩ := List.mem_map.1 hs
  obtain ⟨h1, h2, h3⟩ := drawF_small h he
  refine ⟨?_, ?_, ?_, ?_, ?_⟩
  · show (0 : Int) ≤ (dep t e.1 : Int); omega
  · show (dep t e.1 : Int) ≤ 256; omega
  · show (0 : Int) ≤ (e.2 : Int); omega
  · show (e.2 : Int) < _; omega
  · show (dep t e.1 : Int) = ((pathL t e.1).length : Int)
    rw [dep_at h1, pathL_at h1]
theorem drawS_length {t : List Dir} (h : checkE t = 0) : (drawS t).length = t.length := by
  unfold drawS; rw [List.length_map, draw_length h (check_len h).1]
theorem mayB_of {l : List Spot} (h1 : l.length ≤ 257) (h2 : ∀ s ∈ l, s.x.natAbs ≤ 1099511627776 ∧ s.y.natAbs ≤ 1099511627776) : mayB l = true := by
  unfold mayB
  rw [decide_eq_true h1, Bool.true_and, Bool.not_eq_true']
  rw [List.any_eq_false]
  intro s hs
  obtain ⟨g1, g2⟩ := h2 s hs
  unfold farB
  simp
  omega
theorem drawS_far {t : List Dir} (h : checkE t = 0) : ∀ s ∈ drawS t, s.x.natAbs ≤ 1099511627776 ∧ s.y.natAbs ≤ 1099511627776 := by
  intro s hs
  obtain ⟨g1, g2, g3, g4, _⟩ := drawS_small h hs
  have := (check_len h).2
  omega
theorem drawS_may {t : List Dir} (h : checkE t = 0) : mayB (drawS t) = true := mayB_of (by rw [drawS_length h]; exact (check_len h).2) (drawS_far h)
theorem turnF_far {l : List Spot} (h : ∀ s ∈ l, s.x.natAbs ≤ 1099511627776 ∧ s.y.natAbs ≤ 1099511627776) (q : Int) : ∀ s ∈ l.map (turnF q), s.x.natAbs ≤ 1099511627776 ∧ s.y.natAbs ≤ 1099511627776 := by
  intro s hs
  obtain ⟨r, hr, rfl⟩ := List.mem_map.1 hs
  exact quart_far (h r hr).1 (h r hr).2 _
theorem turnF_may {l : List Spot} (h : mayB l = true) (q : Int) : mayB (l.map (turnF q)) = true := by
  obtain ⟨h1, h2⟩ := mayB_far h
  exact mayB_of (by rw [List.length_map]; exact h1) (turnF_far h2 q)
/-- four turns are none -/
theorem quart_four (k : Nat) : quart (k + 4) = quart k := by
  show (-(quart (k + 3)).2, (quart (k + 3)).1) = _
  simp only [quart, Int.neg_neg]
theorem quart_add (a b : Nat) (s : Spot) : twistF (quart b).1 (quart b).2 (twistF (quart a).1 (quart a).2 s) = twistF (quart (a + b)).1 (quart (a + b)).2 s := by
  induction b with
  | zero => rw [quart_zero]; rfl
  | succ b ih => rw [quart_step, ih, ← Nat.add_assoc, quart_step, quart_path]
theorem turnF_zero (s : Spot) : turnF 0 s = s := by
  unfold turnF
  rw [show (quarters 0).toNat = 0 from by decide, quart_zero]
theorem turnF_four (s : Spot) : turnF 4 s = s := by
  unfold turnF
  rw [show (quarters 4).toNat = 0 from by decide, quart_zero]
theorem quart_mod (a b : Nat) (h : ∃ m, a = b + 4 * m) : quart a = quart b := by
  obtain ⟨m, rfl⟩ := h
  induction m with
  | zero => rfl
  | succ m ih => rw [show b + 4 * (m + 1) = b + 4 * m + 4 from by omega, quart_four, ih]
theorem turnF_add (p q : Int) (s : Spot) : turnF q (turnF p s) = turnF (p.tmod 4 + q.tmod 4) s := by
  unfold turnF
  rw [quart_add]
  have h1 := quarters_lt p
  have h2 := quarters_lt q
  have h3 := quarters_lt (p.tmod 4 + q.tmod 4)
  have t1 := tmod4 p
  have t2 := tmod4 q
  have e1 : quarters p = (p.tmod 4 + 4) % 4 := rfl
  have e2 : quarters q = (q.tmod 4 + 4) % 4 := rfl
  have e3 : quarters (p.tmod 4 + q.tmod 4) = ((p.tmod 4 + q.tmod 4).tmod 4 + 4) % 4 := rfl
  have e4 : ((p.tmod 4 + q.tmod 4).tmod 4 + 4) % 4 = (p.tmod 4 + q.tmod 4) % 4 := by
    have h := Int.tmod_add_mul_tdiv (p.tmod 4 + q.tmod 4) 4
    have h5 := tmod4 (p.tmod 4 + q.tmod 4)
    generalize (p.tmod 4 + q.tmod 4).tdiv 4 = d at *
    generalize (p.tmod 4 + q.tmod 4).tmod 4 = r at *
    omega
  rw [quart_mod ((quarters p).toNat + (quarters q).toNat) (quarters (p.tmod 4 + q.tmod 4)).toNat ?_]
  rw [e4] at e3
  by_cases hlt : (quarters p).toNat + (quarters q).toNat < 4
  · exact ⟨0, by omega⟩
  · exact ⟨1, by omega⟩
theorem turnF_one (s : Spot) : turnF 1 s = twistF 0 1 s := by
  unfold turnF
  rw [show (quarters 1).toNat = 1 from by decide]
  rfl
/-- the frame of a tree's drawing -/
theorem lo_eq {g : Spot → Int} {l : List Spot} {m : Int} (h1 : ∃ s ∈ l, g s = m) (h2 : ∀ s ∈ l, m ≤ g s) : lo g l = m := by
  have key : ∀ (l : List Spot) (a : Int), (∀ s ∈ l, m ≤ g s) → m ≤ a → (a = m ∨ ∃ s ∈ l, g s = m) → l.foldl (fun a t => mn a (g t)) a = m := by
    intro l
    induction l with
    | nil => intro a _ ha hm; rcases hm with hm | ⟨s, hs, _⟩; exact hm; cases hs
    | cons x l ih =>
      intro a hl ha hm
      rw [List.foldl_cons]
      have hx := hl x (by simp)
      refine ih _ (fun s hs => hl s (by simp [hs])) (by unfold mn; split <;> omega) ?_
      rcases hm with hm | ⟨s, hs, he⟩
      · left; unfold mn; split <;> omega
      · rcases List.mem_cons.1 hs with rfl | hs
        · left; unfold mn; split <;> omega
        · exact .inr ⟨s, hs, he⟩
  match l, h1, h2 with
  | [], h1, _ => obtain ⟨s, hs, _⟩ := h1; cases hs
  | x :: l, h1, h2 =>
    show l.foldl _ (g x) = m
    refine key l _ (fun s hs => h2 s (by simp [hs])) (h2 x (by simp)) ?_
    obtain ⟨s, hs, he⟩ := h1
    rcases List.mem_cons.1 hs with rfl | hs
    · exact .inl he
    · exact .inr ⟨s, hs, he⟩
theorem hi_eq {g : Spot → Int} {l : List Spot} {m : Int} (h1 : ∃ s ∈ l, g s = m) (h2 : ∀ s ∈ l, g s ≤ m) : hi g l = m := by
  have key : ∀ (l : List Spot) (a : Int), (∀ s ∈ l, g s ≤ m) → a ≤ m → (a = m ∨ ∃ s ∈ l, g s = m) → l.foldl (fun a t => mx a (g t)) a = m := by
    intro l
    induction l with
    | nil => intro a _ ha hm; rcases hm with hm | ⟨s, hs, _⟩; exact hm; cases hs
    | cons x l ih =>
      intro a hl ha hm
      rw [List.foldl_cons]
      have hx := hl x (by simp)
      refine ih _ (fun s hs => hl s (by simp [hs])) (by unfold mx; split <;> omega) ?_
      rcases hm with hm | ⟨s, hs, he⟩
      · left; unfold mx; split <;> omega
      · rcases List.mem_cons.1 hs with rfl | hs
        · left; unfold mx; split <;> omega
        · exact .inr ⟨s, hs, he⟩
  match l, h1, h2 with
  | [], h1, _ => obtain ⟨s, hs, _⟩ := h1; cases hs
  | x :: l, h1, h2 =>
    show l.foldl _ (g x) = m
    refine key l _ (fun s hs => h2 s (by simp [hs])) (h2 x (by simp)) ?_
    obtain ⟨s, hs, he⟩ := h1
    rcases List.mem_cons.1 hs with rfl | hs
    · exact .inl he
    · exact .inr ⟨s, hs, he⟩
/-- the longest path of the first directories -/
def longF (t : List Dir) : Nat → Nat
  | 0 => 0
  | k + 1 => if longF t k < dep t k then dep t k else longF t k
theorem longF_ge (t : List Dir) : ∀ k j, j < k → dep t j ≤ longF t k := by
  intro k
  induction k with
  | zero => intro j h; omega
  | succ k ih =>
    intro j h
    rw [longF]
    by_cases he : j = k
    · subst he; split <;> omega
    · have := ih j (by omega); split <;> omega
theorem longF_is (t : List Dir) : ∀ k, longF t k = 0 ∨ ∃ j, j < k ∧ dep t j = longF t k := by
  intro k
  induction k with
  | zero => exact .inl rfl
  | succ k ih =>
    rw [longF]
    split
    · exact .inr ⟨k, by omega, rfl⟩
    · rcases ih with h | ⟨j, hj, he⟩
      · exact .inl h
      · exact .inr ⟨j, by omega, he⟩
/-- how many of the first directories have nothing inside -/
noncomputable def bareF (t : List Dir) : Nat → Nat
  | 0 => 0
  | k + 1 => if insideL t k = [] then bareF t k + 1 else bareF t k
theorem bareF_count (t : List Dir) : ∀ k, bareF t k = (List.range k).countP (leafB t) := by
  intro k
  induction k with
  | zero => rfl
  | succ k ih =>
    rw [bareF, List.range_succ, List.countP_append, ih]
    unfold leafB
    by_cases h : insideL t k = [] <;> simp [h]
theorem drawS_root {t : List Dir} (h : checkE t = 0) : spF t (0, 0) ∈ drawS t := by
  obtain ⟨h0, h1⟩ := check_len h
  refine List.mem_map.2 ⟨(0, 0), ?_, rfl⟩
  obtain ⟨m, hm⟩ : ∃ m, t.length = m + 1 := ⟨t.length - 1, by omega⟩
  rw [hm, drawF]; simp
theorem drawS_box {t : List Dir} (h : checkE t = 0) : boxV (drawS t) = .agg #[.int .i64 0, .int .i64 0, .int .i64 (longF t t.length), .int .i64 ((bareF t t.length : Int) - 1)] := by
  obtain ⟨h0, h1⟩ := check_len h
  have hd : dep t 0 = 0 := by rw [dep_at h0, root_of h h0]; rfl
  have e1 : lo (·.x) (drawS t) = 0 := lo_eq ⟨_, drawS_root h, by show (dep t 0 : Int) = 0; rw [hd]; rfl⟩ fun s hs => (drawS_small h hs).1
  have e2 : lo (·.y) (drawS t) = 0 := lo_eq ⟨_, drawS_root h, rfl⟩ fun s hs => (drawS_small h hs).2.2.1
  have e3 : hi (·.x) (drawS t) = (longF t t.length : Int) := by
    refine hi_eq ?_ ?_
    · rcases longF_is t t.length with hz | ⟨j, hj, he⟩
      · exact ⟨_, drawS_root h, by show (dep t 0 : Int) = _; rw [hd, hz]⟩
      · obtain ⟨e, hm, rfl⟩ := List.mem_map.1 (draw_root_mem h hj)
        exact ⟨spF t e, List.mem_map_of_mem hm, by show (dep t e.1 : Int) = _; rw [he]⟩
    · intro s hs
      obtain ⟨e, he, rfl⟩ := List.mem_map.1 hs
      have := longF_ge t t.length e.1 (drawF_small h he).1
      show (dep t e.1 : Int) ≤ _
      omega
  have e4 : hi (·.y) (drawS t) = (bareF t t.length : Int) - 1 := by
    rw [bareF_count, rows_leaves h h0]
    refine hi_eq ?_ ?_
    · obtain ⟨e, he, hr⟩ := draw_last h t.length 0 0 h0 (by omega)
      exact ⟨spF t e, List.mem_map_of_mem he, by show (e.2 : Int) = _; omega⟩
    · intro s hs
      obtain ⟨e, he, rfl⟩ := List.mem_map.1 hs
      have := (draw_in h _ 0 0 h0 e he).hi
      show (e.2 : Int) ≤ _
      omega
  unfold boxV
  rw [e1, e2, e3, e4]
/-- two spots of a tree's drawing, one ahead of the other -/
theorem drawS_apart {t : List Dir} (h : checkE t = 0) {i k : Nat} (hi : i < (drawS t).length) (hk : k < i) :
    ((drawS t)[k].x = (drawS t)[i].x → (drawS t)[k].y ≠ (drawS t)[i].y) ∧ (drawS t)[k].path ≠ (drawS t)[i].path ∧ (drawS t)[k].y ≤ (drawS t)[i].y := by
  obtain ⟨h0, _⟩ := check_len h
  have hi' : i < (drawF t t.length 0 0).length := by unfold drawS at hi; simpa using hi
  have hk' : k < (drawF t t.length 0 0).length := by omega
  have hp := List.pairwise_iff_getElem.1 (draw_pair h t.length 0 0 h0) k i hk' hi' hk
  have ek : (drawS t)[k] = spF t (drawF t t.length 0 0)[k] := List.getElem_map (spF t)
  have ei : (drawS t)[i] = spF t (drawF t t.length 0 0)[i] := List.getElem_map (spF t)
  rw [ek, ei]
  have g1 := drawF_small h (List.getElem_mem hk')
  have g2 := drawF_small h (List.getElem_mem hi')
  generalize (drawF t t.length 0 0)[k] = a at *
  generalize (drawF t t.length 0 0)[i] = b at *
  obtain ⟨hne, hor⟩ := hp
  refine ⟨?_, ?_, ?_⟩
  · intro hx hy
    have hx : (dep t a.1 : Int) = (dep t b.1 : Int) := hx
    have hy : (a.2 : Int) = (b.2 : Int) := hy
    omega
  · intro he
    have he : pathL t a.1 = pathL t b.1 := he
    rw [pathL_at g1.1, pathL_at g2.1] at he
    exact hne (path_inj h g1.1 g2.1 he)
  · show (a.2 : Int) ≤ (b.2 : Int); omega
theorem drawS_find {t : List Dir} (h : checkE t = 0) {s : Spot} (hs : s ∈ drawS t) : 0 ≤ findI t s.path := by
  obtain ⟨e, he, rfl⟩ := List.mem_map.1 hs
  obtain ⟨h1, _, _⟩ := drawF_small h he
  show 0 ≤ findI t (pathL t e.1)
  rw [pathL_at h1, findI_self h h1]
  omega
end Go.Proofs.YtkpbnbnfgadkcaaGreatDoor
