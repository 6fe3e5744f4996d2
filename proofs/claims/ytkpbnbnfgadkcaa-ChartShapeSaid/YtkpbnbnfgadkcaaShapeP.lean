/-
  The plain law of turning and flipping: distances and the frame's sides.
-/
import Derived.Test.YtkpbnbnfgadkcaaBox
import Derived.Test.YtkpbnbnfgadkcaaRefC
import Derived.Test.YtkpbnbnfgadkcaaPlane
namespace Go.Proofs.Ytkpbnbnfgadkcaa
open Go.RowKit
set_option linter.unusedVariables false
set_option linter.unusedSimpArgs false

def span (g : Spot → Int) (l : List Spot) : Int := hi g l - lo g l

theorem foldl_neg (g : Spot → Int) (l : List Spot) : ∀ a b : Int, b = -a → l.foldl (fun a t => mn a (-(g t))) b = -(l.foldl (fun a t => mx a (g t)) a) := by
  induction l with
  | nil => intro a b h; simpa using h
  | cons s l ih =>
    intro a b h
    simp only [List.foldl_cons]
    refine ih _ _ ?_
    subst h
    unfold mn mx
    split <;> split <;> omega
theorem foldl_neg' (g : Spot → Int) (l : List Spot) : ∀ a b : Int, b = -a → l.foldl (fun a t => mx a (-(g t))) b = -(l.foldl (fun a t => mn a (g t)) a) := by
  induction l with
  | nil => intro a b h; simpa using h
  | cons s l ih =>
    intro a b h
    simp only [List.foldl_cons]
    refine ih _ _ ?_
    subst h
    unfold mn mx
    split <;> split <;> omega
theorem lo_neg (g : Spot → Int) (l : List Spot) : lo (fun s => -(g s)) l = -(hi g l) := by
  cases l with
  | nil => simp [lo, hi]
  | cons s l => exact foldl_neg g l _ _ rfl
theorem hi_neg (g : Spot → Int) (l : List Spot) : hi (fun s => -(g s)) l = -(lo g l) := by
  cases l with
  | nil => simp [lo, hi]
  | cons s l => exact foldl_neg' g l _ _ rfl
theorem span_neg (g : Spot → Int) (l : List Spot) : span (fun s => -(g s)) l = span g l := by
  unfold span; rw [lo_neg, hi_neg]; omega
theorem lo_map (g : Spot → Int) (F : Spot → Spot) (l : List Spot) : lo g (l.map F) = lo (fun s => g (F s)) l := by
  cases l with
  | nil => rfl
  | cons s l => simp [lo, List.foldl_map]
theorem hi_map (g : Spot → Int) (F : Spot → Spot) (l : List Spot) : hi g (l.map F) = hi (fun s => g (F s)) l := by
  cases l with
  | nil => rfl
  | cons s l => simp [hi, List.foldl_map]
theorem span_map (g : Spot → Int) (F : Spot → Spot) (l : List Spot) : span g (l.map F) = span (fun s => g (F s)) l := by
  unfold span; rw [lo_map, hi_map]

theorem foldl_in (g : Spot → Int) (M : Int) (l : List Spot) (h : ∀ s ∈ l, -M ≤ g s ∧ g s ≤ M) : ∀ a, -M ≤ a ∧ a ≤ M →
    (-M ≤ l.foldl (fun a t => mn a (g t)) a ∧ l.foldl (fun a t => mn a (g t)) a ≤ M) ∧ (-M ≤ l.foldl (fun a t => mx a (g t)) a ∧ l.foldl (fun a t => mx a (g t)) a ≤ M) := by
  induction l with
  | nil => intro a ha; exact ⟨ha, ha⟩
  | cons s l ih =>
    intro a ha
    have hs := h s (by simp)
    simp only [List.foldl_cons]
    have ih' := ih (fun t ht => h t (by simp [ht]))
    exact ⟨(ih' _ (by unfold mn; split <;> omega)).1, (ih' _ (by unfold mx; split <;> omega)).2⟩
theorem lo_in {g : Spot → Int} {M : Int} (hM : 0 ≤ M) {l : List Spot} (h : ∀ s ∈ l, -M ≤ g s ∧ g s ≤ M) : (-M ≤ lo g l ∧ lo g l ≤ M) ∧ (-M ≤ hi g l ∧ hi g l ≤ M) := by
  cases l with
  | nil => simp [lo, hi]; omega
  | cons s l => exact foldl_in g M l (fun t ht => h t (by simp [ht])) _ (h s (by simp))

/-- turned, then flipped -/
def shapeF (q : Int) (s : Spot) : Spot := flipF (turnF q s)

/-- the four ways -/
theorem shape_ways (q : Int) :
    (q.tmod 2 = 0 ∧ (∀ s, (shapeF q s).x = s.x ∧ (shapeF q s).y = -s.y)) ∨ (q.tmod 2 ≠ 0 ∧ (∀ s, (shapeF q s).x = -s.y ∧ (shapeF q s).y = -s.x)) ∨
    (q.tmod 2 = 0 ∧ (∀ s, (shapeF q s).x = -s.x ∧ (shapeF q s).y = s.y)) ∨ (q.tmod 2 ≠ 0 ∧ (∀ s, (shapeF q s).x = s.y ∧ (shapeF q s).y = s.x)) := by
  have hr := quarters_lt q
  have hpar : (q.tmod 2 = 0 ↔ quarters q % 2 = 0) := by
    unfold quarters
    have h1 := Int.mul_tdiv_add_tmod q 4
    have h2 := Int.mul_tdiv_add_tmod q 2
    have h3 : -1 ≤ q.tmod 2 ∧ q.tmod 2 ≤ 1 := by
      have a1 := Int.tmod_lt_of_pos q (show (0 : Int) < 2 by decide)
      have a2 := Int.lt_tmod_of_pos q (show (0 : Int) < 2 by decide)
      omega
    have h4 := tmod4 q
    omega
  unfold shapeF turnF flipF twistF
  have hk : (quarters q).toNat = 0 ∨ (quarters q).toNat = 1 ∨ (quarters q).toNat = 2 ∨ (quarters q).toNat = 3 := by omega
  rcases hk with hk | hk | hk | hk
  · left; exact ⟨hpar.2 (by omega), fun s => by rw [hk]; simp [quart]⟩
  · right; left; exact ⟨fun h => by have := hpar.1 h; omega, fun s => by rw [hk]; simp [quart]⟩
  · right; right; left; exact ⟨hpar.2 (by omega), fun s => by rw [hk]; simp [quart]⟩
  · right; right; right; exact ⟨fun h => by have := hpar.1 h; omega, fun s => by rw [hk]; simp [quart]⟩

/-- the frame keeps its sides -/
theorem shape_span (q : Int) (l : List Spot) :
    (q.tmod 2 = 0 → span (·.x) (l.map (shapeF q)) = span (·.x) l ∧ span (·.y) (l.map (shapeF q)) = span (·.y) l) ∧
    (q.tmod 2 ≠ 0 → span (·.x) (l.map (shapeF q)) = span (·.y) l ∧ span (·.y) (l.map (shapeF q)) = span (·.x) l) := by
  rw [span_map, span_map]
  rcases shape_ways q with ⟨h, hs⟩ | ⟨h, hs⟩ | ⟨h, hs⟩ | ⟨h, hs⟩
  all_goals
    have e1 := funext fun s => (hs s).1
    have e2 := funext fun s => (hs s).2
    rw [e1, e2]
  · exact ⟨fun _ => ⟨rfl, span_neg (·.y) l⟩, fun h' => absurd h h'⟩
  · exact ⟨fun h' => absurd h' h, fun _ => ⟨span_neg (·.y) l, span_neg (·.x) l⟩⟩
  · exact ⟨fun _ => ⟨span_neg (·.x) l, rfl⟩, fun h' => absurd h h'⟩
  · exact ⟨fun h' => absurd h' h, fun _ => ⟨rfl, rfl⟩⟩

theorem sq_sub (a b : Int) : (-a - -b) * (-a - -b) = (a - b) * (a - b) := by
  rw [show -a - -b = -(a - b) from by omega, Int.neg_mul_neg]
/-- how far two points are from one another -/
theorem shape_far (q : Int) (s t : Spot) :
    ((shapeF q s).x - (shapeF q t).x) * ((shapeF q s).x - (shapeF q t).x) + ((shapeF q s).y - (shapeF q t).y) * ((shapeF q s).y - (shapeF q t).y) = (s.x - t.x) * (s.x - t.x) + (s.y - t.y) * (s.y - t.y) := by
  rcases shape_ways q with ⟨_, hs⟩ | ⟨_, hs⟩ | ⟨_, hs⟩ | ⟨_, hs⟩ <;> rw [(hs s).1, (hs s).2, (hs t).1, (hs t).2]
  · rw [sq_sub]
  · rw [sq_sub, sq_sub]; omega
  · rw [sq_sub]
  · omega
theorem shape_near (q : Int) {s : Spot} (h : nearB s = true) : nearB (shapeF q s) = true := by
  simp [nearB] at h ⊢
  rcases shape_ways q with ⟨_, hs⟩ | ⟨_, hs⟩ | ⟨_, hs⟩ | ⟨_, hs⟩ <;> rw [(hs s).1, (hs s).2] <;> omega

/-- no difference and no square wraps -/
theorem shape_wraps (q : Int) {s t : Spot} (h : nearB s = true) (h' : nearB t = true) :
    IntKind.i64.wrap (s.x - t.x) = s.x - t.x ∧ IntKind.i64.wrap (s.y - t.y) = s.y - t.y ∧
    IntKind.i64.wrap ((s.x - t.x) * (s.x - t.x)) = (s.x - t.x) * (s.x - t.x) ∧ IntKind.i64.wrap ((s.y - t.y) * (s.y - t.y)) = (s.y - t.y) * (s.y - t.y) ∧
    IntKind.i64.wrap ((s.x - t.x) * (s.x - t.x) + (s.y - t.y) * (s.y - t.y)) = (s.x - t.x) * (s.x - t.x) + (s.y - t.y) * (s.y - t.y) := by
  simp [nearB] at h h'
  have q1 : ((s.x - t.x) * (s.x - t.x)).natAbs < 4398046511105 := natAbs_mul_lt (A := 2097152) (B := 2097152) (by omega) (by omega) (by omega)
  have q2 : ((s.y - t.y) * (s.y - t.y)).natAbs < 4398046511105 := natAbs_mul_lt (A := 2097152) (B := 2097152) (by omega) (by omega) (by omega)
  exact ⟨IntWalk.i64_in _ (by omega), IntWalk.i64_in _ (by omega), IntWalk.i64_in _ (by omega), IntWalk.i64_in _ (by omega), IntWalk.i64_in _ (by omega)⟩
end Go.Proofs.Ytkpbnbnfgadkcaa
