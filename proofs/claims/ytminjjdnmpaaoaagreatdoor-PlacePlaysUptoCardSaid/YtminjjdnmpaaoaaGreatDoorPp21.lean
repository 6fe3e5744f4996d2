/-
  Placing a graph, in plain words: the document's best spot of all is the program's on the way up.
  Placing a graph, in plain words: directories put in order; the program's way through a directory's edges is the document's.
-/
import Derived.Test.YtminjjdnmpaaoaaGreatDoorPp20
import Derived.Test.YtminjjdnmpaaoaaGreatDoorPp19
set_option autoImplicit false
set_option relaxedAutoImplicit false
set_option linter.unusedVariables false
set_option linter.unusedSimpArgs false
namespace Go.Proofs.YtminjjdnmpaaoaaGreatDoor
open Go

/-- the smallest number of a kind from a place on, by what stands there; below 0: none -/
def MinI (idx : Nat → Int) (P : Nat → Prop) (lo : Nat) (r : Int) : Prop := (r = -1 ∧ ∀ k, lo ≤ k → ¬ P k) ∨ ∃ k, lo ≤ k ∧ P k ∧ r = idx k ∧ ∀ k', lo ≤ k' → P k' → k ≤ k'
theorem MinI.skip {idx : Nat → Int} {P : Nat → Prop} {lo : Nat} {r : Int} (h : MinI idx P (lo + 1) r) (hn : ¬ P lo) : MinI idx P lo r := by
  rcases h with ⟨h1, h2⟩ | ⟨k, h1, h2, h3, h4⟩
  · refine .inl ⟨h1, fun k hk hp => ?_⟩
    by_cases e : k = lo
    · rw [e] at hp; exact hn hp
    · exact h2 k (by omega) hp
  · refine .inr ⟨k, by omega, h2, h3, fun k' hk' hp => ?_⟩
    by_cases e : k' = lo
    · rw [e] at hp; exact absurd hp hn
    · exact h4 k' (by omega) hp
theorem MinI.all {idx : Nat → Int} {P : Nat → Prop} {lo : Nat} {r : Int} (h : MinI idx P (lo + 1) r) (hn : ∀ k, k ≤ lo → ¬ P k) : MinI idx P 0 r := by
  rcases h with ⟨h1, h2⟩ | ⟨k, h1, h2, h3, h4⟩
  · refine .inl ⟨h1, fun k _ hp => ?_⟩
    rcases Nat.lt_or_ge lo k with e | e
    · exact h2 k e hp
    · exact hn k e hp
  · refine .inr ⟨k, by omega, h2, h3, fun k' _ hp => ?_⟩
    rcases Nat.lt_or_ge lo k' with e | e
    · exact h4 k' e hp
    · exact absurd hp (hn k' e)
theorem MinI.here {idx : Nat → Int} {P : Nat → Prop} {lo : Nat} (h : P lo) : MinI idx P lo (idx lo) := .inr ⟨lo, Nat.le_refl _, h, rfl, fun k' hk' _ => hk'⟩

section
variable (T : List Dir) (S : List Stl) (old : Option (List Dir)) (path : List ByteArray) (s : ByteArray) (x : Pack)
noncomputable def idxK (k : Nat) : Int := findI T (path.take k)
def ClearK (k : Nat) : Prop := ∀ k', k ≤ k' → k' ≤ path.length → findI T (path.take k' ++ [s]) < 0
def ValidK (k : Nat) : Prop := k ≤ path.length ∧ ClearK T path s k ∧ turnsB T S (idxK T path k).toNat s = false
noncomputable def likedK (k : Nat) : Bool := likedB old (path.take k ++ [s]) x
def ValidLK (k : Nat) : Prop := ValidK T S path s k ∧ likedK old path s x k = true
end
theorem spotGo_min (T : List Dir) (S : List Stl) (old : Option (List Dir)) (path : List ByteArray) (s : ByteArray) (x : Pack) : ∀ (k : Nat) (b l : Int), k ≤ path.length + 1 → ClearK T path s k →
    MinI (idxK T path) (ValidK T S path s) k b → MinI (idxK T path) (ValidLK T S old path s x) k l →
    MinI (idxK T path) (ValidK T S path s) 0 (spotGo T S old path s x k (b, l)).1 ∧ MinI (idxK T path) (ValidLK T S old path s x) 0 (spotGo T S old path s x k (b, l)).2 := by
  intro k
  induction k with
  | zero => intro b l _ _ hb hl; exact ⟨hb, hl⟩
  | succ k ih =>
    intro b l hk hc hb hl
    rw [spotGo]
    by_cases h1 : 0 ≤ findI T (path.take k ++ [s])
    · rw [if_pos h1]
      have hno : ∀ k', k' ≤ k → ¬ ValidK T S path s k' := fun k' hk' hv => by
        have := hv.2.1 k hk' (by omega)
        omega
      exact ⟨hb.all hno, hl.all fun k' hk' hv => hno k' hk' hv.1⟩
    · rw [if_neg h1]
      have hc' : ClearK T path s k := fun k' h2 h3 => by
        by_cases e : k' = k
        · rw [e]; omega
        · exact hc k' (by omega) h3
      by_cases h2 : turnsB T S (findI T (path.take k)).toNat s = true
      · rw [if_pos h2]
        have hno : ¬ ValidK T S path s k := fun hv => by
          have := hv.2.2
          unfold idxK at this
          rw [h2] at this; cases this
        exact ih b l (by omega) hc' (hb.skip hno) (hl.skip fun hv => hno hv.1)
      · rw [if_neg h2]
        have hv : ValidK T S path s k := ⟨by omega, hc', by unfold idxK; exact Bool.eq_false_iff.2 h2⟩
        refine ih _ _ (by omega) hc' (MinI.here hv) ?_
        by_cases h3 : likedB old (path.take k ++ [s]) x = true
        · rw [if_pos h3]; exact MinI.here (P := ValidLK T S old path s x) ⟨hv, h3⟩
        · rw [if_neg h3]; exact hl.skip fun hv => h3 hv.2
theorem spotI_min (T : List Dir) (S : List Stl) (old : Option (List Dir)) (path : List ByteArray) (s : ByteArray) (x : Pack) (hpos : ∀ k, k ≤ path.length → 0 ≤ idxK T path k) :
    (spotI T S old path s x = -1 ∧ ∀ k, ¬ ValidK T S path s k) ∨ ∃ k, ValidK T S path s k ∧ spotI T S old path s x = idxK T path k ∧
      ∀ k', ValidK T S path s k' → (likedK old path s x k' = true → likedK old path s x k = true) ∧ (likedK old path s x k' = likedK old path s x k → k ≤ k') := by
  have hno : ∀ k, path.length + 1 ≤ k → ¬ ValidK T S path s k := fun k hk hv => by have := hv.1; omega
  obtain ⟨h1, h2⟩ := spotGo_min T S old path s x (path.length + 1) (-1) (-1) (Nat.le_refl _) (fun k' h1 h2 => by omega) (.inl ⟨rfl, hno⟩) (.inl ⟨rfl, fun k hk hv => hno k hk hv.1⟩)
  unfold spotI pickI
  generalize spotGo T S old path s x (path.length + 1) (-1, -1) = r at *
  obtain ⟨b, l⟩ := r
  simp only at h1 h2 ⊢
  have none_of : (∀ k, 0 ≤ k → ¬ ValidLK T S old path s x k) → (b = -1 ∧ ∀ k, ¬ ValidK T S path s k) ∨ ∃ k, ValidK T S path s k ∧ b = idxK T path k ∧
      ∀ k', ValidK T S path s k' → (likedK old path s x k' = true → likedK old path s x k = true) ∧ (likedK old path s x k' = likedK old path s x k → k ≤ k') := fun hn => by
    rcases h1 with ⟨h3, h4⟩ | ⟨k, _, h3, h4, h5⟩
    · exact .inl ⟨h3, fun k => h4 k (Nat.zero_le _)⟩
    · exact .inr ⟨k, h3, h4, fun k' hk' => ⟨fun hl => absurd ⟨hk', hl⟩ (hn k' (Nat.zero_le _)), fun _ => h5 k' (Nat.zero_le _) hk'⟩⟩
  rcases h2 with ⟨h3, h4⟩ | ⟨k, _, h3, h4, h5⟩
  · rw [if_neg (by omega)]; exact none_of h4
  · have h0 : 0 ≤ l := by rw [h4]; exact hpos k h3.1.1
    rw [if_pos h0]
    exact .inr ⟨k, h3.1, h4, fun k' hk' => ⟨fun _ => h3.2, fun e => h5 k' (Nat.zero_le _) ⟨hk', by rw [e]; exact h3.2⟩⟩⟩

/-! ### the document's way -/
/-- the best of those that were tried -/
def BestR (T : List Dir) (cand liked : Nat → Bool) (len : Nat → Nat) (m : Nat) (r : Int × Bool) : Prop :=
  (r = (-1, false) ∧ ∀ i, i < m → cand i = false) ∨ ∃ i : Nat, i < m ∧ cand i = true ∧ r = ((i : Int), liked i) ∧ ∀ c, c < m → cand c = true → (liked c = true → liked i = true) ∧ (liked c = liked i → len i ≤ len c)
theorem bestGo_best (T : List Dir) (S : List Stl) (old : Option (List Dir)) (from_ : Nat) (s : ByteArray) (x : Pack) : ∀ m, BestR T (fun i => spotD T S i from_ s) (fun i => likedB old (pathAt T i ++ [s]) x) (fun i => (pathAt T i).length) m (bestGo T S old from_ s x m)
  | 0 => .inl ⟨rfl, fun i hi => absurd hi (Nat.not_lt_zero i)⟩
  | m + 1 => by
    have h := bestGo_best T S old from_ s x m
    rw [bestGo]
    generalize bestGo T S old from_ s x m = st at *
    unfold bestStep
    simp only
    cases hc : spotD T S m from_ s with
    | false =>
      rw [if_neg (by simp)]
      rcases h with ⟨h1, h2⟩ | ⟨i, h1, h2, h3, h4⟩
      · refine .inl ⟨h1, fun i hi => ?_⟩
        by_cases e : i = m
        · rw [e]; exact hc
        · exact h2 i (by omega)
      · refine .inr ⟨i, by omega, h2, h3, fun c hcm hcc => ?_⟩
        by_cases e : c = m
        · rw [e] at hcc; simp only at hcc; rw [hc] at hcc; cases hcc
        · exact h4 c (by omega) hcc
    | true =>
      simp only [true_and]
      rcases h with ⟨h1, h2⟩ | ⟨i, h1, h2, h3, h4⟩
      · subst h1
        have hcond : (likedB old (pathAt T m ++ [s]) x = true ∧ False = False) ∨ True := .inr trivial
        rw [if_pos (by
          cases hl : likedB old (pathAt T m ++ [s]) x
          · exact .inr ⟨rfl, rfl⟩
          · exact .inl ⟨rfl, rfl⟩)]
        refine .inr ⟨m, by omega, hc, rfl, fun c hcm hcc => ?_⟩
        by_cases e : c = m
        · subst e; exact ⟨fun h => h, fun _ => Nat.le_refl _⟩
        · have := h2 c (by omega); simp only at this hcc; rw [this] at hcc; cases hcc
      · subst h3
        simp only [Int.toNat_natCast]
        have hi0 : decide ((i : Int) < 0) = false := decide_eq_false (by omega)
        rw [hi0, Bool.false_or]
        by_cases hcond : (likedB old (pathAt T m ++ [s]) x = true ∧ likedB old (pathAt T i ++ [s]) x = false) ∨ (likedB old (pathAt T m ++ [s]) x = likedB old (pathAt T i ++ [s]) x ∧ decide ((pathAt T m).length < (pathAt T i).length) = true)
        · rw [if_pos hcond]
          refine .inr ⟨m, by omega, hc, rfl, fun c hcm hcc => ?_⟩
          by_cases e : c = m
          · subst e; exact ⟨fun h => h, fun _ => Nat.le_refl _⟩
          · have h5 := h4 c (by omega) hcc
            simp only at h5 ⊢
            rcases hcond with ⟨g1, g2⟩ | ⟨g1, g2⟩
            · refine ⟨fun _ => g1, fun hh => ?_⟩
              rw [g1] at hh
              have := h5.1 hh
              rw [g2] at this; cases this
            · rw [decide_eq_true_eq] at g2
              refine ⟨fun hh => by rw [g1]; exact h5.1 hh, fun hh => ?_⟩
              have := h5.2 (by rw [hh, g1])
              omega
        · rw [if_neg hcond]
          refine .inr ⟨i, by omega, h2, rfl, fun c hcm hcc => ?_⟩
          by_cases e : c = m
          · subst e
            simp only
            refine ⟨fun hh => ?_, fun hh => ?_⟩
            · cases hl : likedB old (pathAt T i ++ [s]) x with
              | true => rfl
              | false => exact absurd (.inl ⟨hh, hl⟩) hcond
            · rcases Nat.lt_or_ge (pathAt T c).length (pathAt T i).length with hlt | hge
              · exact absurd (.inr ⟨hh, decide_eq_true hlt⟩) hcond
              · exact hge
          · exact h4 c (by omega) hcc
/-- a spot is a place on the way up -/
theorem spotD_iff {q : PlIn} {at_ : Nat} {done : List ByteArray} {st : PlSt} (h : PlInv q at_ done st) {j : Nat} {d : Dir} (hd : st.1[j]? = some d) {i : Nat} (hi : i < st.1.length) (s : ByteArray) :
    spotD st.1 st.2 i j s = true ↔ ∃ k, ValidK st.1 st.2 d.path s k ∧ (i : Int) = idxK st.1 d.path k := by
  have hpi := dirAt_some hi
  unfold spotD
  rw [pathAt_of hd]
  simp only [Bool.and_eq_true, Bool.not_eq_true', List.all_eq_true, underP_iff]
  constructor
  · rintro ⟨h1, h2, h3⟩
    have h1' : (dirAt st.1 i).path <+: d.path := h1
    have hk : d.path.take (dirAt st.1 i).path.length = (dirAt st.1 i).path := (List.prefix_iff_eq_take.1 h1').symm
    have hidx : idxK st.1 d.path (dirAt st.1 i).path.length = (i : Int) := by
      unfold idxK; rw [hk]; exact find_nodup h.apart hpi
    refine ⟨(dirAt st.1 i).path.length, ⟨h1'.length_le, fun k' hk1 hk2 => ?_, ?_⟩, hidx.symm⟩
    · obtain ⟨i', e, _, _, he, hep⟩ := h.find hd hk2
      have h4 := h2 e (List.mem_of_getElem? he)
      rcases Int.lt_or_le (findI st.1 (d.path.take k' ++ [s])) 0 with hl | hl
      · exact hl
      · exfalso
        have u1 : underP e.path (pathAt st.1 i) = true := by
          rw [underP_iff, hep]
          show (dirAt st.1 i).path <+: _
          rw [← hk]
          exact List.take_prefix_take_left hk1
        have u2 : underP d.path e.path = true := by rw [underP_iff, hep]; exact List.take_prefix _ _
        rw [u1, u2, hep, decide_eq_true hl] at h4
        cases h4
    · rw [hidx, Int.toNat_natCast]; exact h3
  · rintro ⟨k, ⟨hk, hcl, ht⟩, hik⟩
    obtain ⟨i', e, _, hf, he, hep⟩ := h.find hd hk
    have hii : i = i' := by unfold idxK at hik; omega
    subst hii
    have hpe : pathAt st.1 i = d.path.take k := by rw [pathAt_of he, hep]
    rw [hpe]
    refine ⟨List.take_prefix _ _, fun f hf' => ?_, ?_⟩
    · cases hu1 : underP f.path (d.path.take k) with
      | false => rfl
      | true =>
        cases hu2 : underP d.path f.path with
        | false => rfl
        | true =>
          rw [underP_iff] at hu1 hu2
          have hfk : f.path = d.path.take f.path.length := List.prefix_iff_eq_take.1 hu2
          have h1 := hu1.length_le
          rw [List.length_take, Nat.min_eq_left hk] at h1
          have h2 := hcl f.path.length h1 hu2.length_le
          rw [← hfk] at h2
          rw [decide_eq_false (by omega)]
          rfl
    · rw [← hik, Int.toNat_natCast] at ht; exact ht
theorem best_spot {q : PlIn} {at_ : Nat} {done : List ByteArray} {st : PlSt} (h : PlInv q at_ done st) {j : Nat} {d : Dir} (hd : st.1[j]? = some d) (old : Option (List Dir)) (s : ByteArray) (x : Pack) :
    bestI st.1 st.2 old j s x = spotI st.1 st.2 old d.path s x := by
  have hB := bestGo_best st.1 st.2 old j s x st.1.length
  have hS := spotI_min st.1 st.2 old d.path s x fun k hk => by
    obtain ⟨i, e, _, h1, _⟩ := h.find hd hk
    unfold idxK; omega
  unfold bestI
  have at_k : ∀ k, k ≤ d.path.length → ∃ i : Nat, i < st.1.length ∧ idxK st.1 d.path k = (i : Int) ∧ pathAt st.1 i = d.path.take k := fun k hk => by
    obtain ⟨i, e, _, h1, h2, h3⟩ := h.find hd hk
    exact ⟨i, (List.getElem?_eq_some_iff.1 h2).1, h1, by rw [pathAt_of h2, h3]⟩
  rcases hS with ⟨h1, h2⟩ | ⟨k, h1, h2, h3⟩
  · rcases hB with ⟨g1, _⟩ | ⟨i, g1, g2, g3, _⟩
    · rw [g1, h1]
    · obtain ⟨k, hk, _⟩ := (spotD_iff h hd g1 s).1 g2
      exact absurd hk (h2 k)
  · obtain ⟨i0, hi0, hik, hip⟩ := at_k k h1.1
    have hc0 : spotD st.1 st.2 i0 j s = true := (spotD_iff h hd hi0 s).2 ⟨k, h1, hik.symm⟩
    rcases hB with ⟨_, g2⟩ | ⟨i, g1, g2, g3, g4⟩
    · have := g2 i0 hi0
      simp only at this
      rw [hc0] at this; cases this
    · rw [g3, h2]
      simp only
      obtain ⟨k', hk', hik'⟩ := (spotD_iff h hd g1 s).1 g2
      obtain ⟨i1, hi1, hik1, hip1⟩ := at_k k' hk'.1
      have hii : i = i1 := by omega
      subst hii
      have e1 := h3 k' hk'
      have e2 := g4 i0 hi0 hc0
      simp only [hip, hip1] at e2
      unfold likedK at e1
      rw [List.length_take, List.length_take, Nat.min_eq_left hk'.1, Nat.min_eq_left h1.1] at e2
      have hl : likedB old (d.path.take k' ++ [s]) x = likedB old (d.path.take k ++ [s]) x := by
        cases ha : likedB old (d.path.take k' ++ [s]) x <;> cases hb : likedB old (d.path.take k ++ [s]) x
        · rfl
        · have := e2.1 hb; rw [ha] at this; cases this
        · have := e1.1 ha; rw [hb] at this; cases this
        · rfl
      have hle := e1.2 hl
      have hge := e2.2 hl.symm
      have hkk : k = k' := by omega
      rw [hik', hkk]
end Go.Proofs.YtminjjdnmpaaoaaGreatDoor
set_option autoImplicit false
set_option relaxedAutoImplicit false
set_option linter.unusedVariables false
set_option linter.unusedSimpArgs false
namespace Go.Proofs.YtminjjdnmpaaoaaGreatDoor
open Go

/-! ### in order -/
def putD (l : List Dir) (d : Dir) : List Dir := l.takeWhile (fun g => !lessB (textB d.path) (textB g.path)) ++ d :: l.dropWhile (fun g => !lessB (textB d.path) (textB g.path))
def sortD (l : List Dir) : List Dir := l.foldl putD []
def upD (x y : Dir) : Prop := lessB (textB y.path) (textB x.path) = false
theorem putD_perm (l : List Dir) (f : Dir) : (putD l f).Perm (l ++ [f]) := by
  unfold putD
  have e := List.takeWhile_append_dropWhile (p := fun g : Dir => !lessB (textB f.path) (textB g.path)) (l := l)
  refine List.perm_middle.trans ?_
  rw [e]
  exact (List.perm_append_singleton f l).symm
theorem sortD_go (l : List Dir) : ∀ a, (l.foldl putD a).Perm (a ++ l) := by
  induction l with
  | nil => intro a; rw [List.append_nil]; exact List.Perm.refl _
  | cons f l ih =>
    intro a
    rw [List.foldl_cons]
    refine (ih (putD a f)).trans ?_
    refine ((putD_perm a f).append_right l).trans ?_
    rw [List.append_assoc]
    exact List.Perm.refl _
theorem sortD_perm (l : List Dir) : (sortD l).Perm l := sortD_go l []
theorem less_trD {a b c : ByteArray} (h1 : lessB b a = false) (h2 : lessB c b = false) : lessB c a = false := by
  rw [lessB_lt, decide_eq_false_iff_not] at *
  rw [List.not_lt] at *
  exact List.le_trans h1 h2
theorem less_asD {a b : ByteArray} (h : lessB a b = true) : lessB b a = false := by
  cases hb : lessB b a with
  | false => rfl
  | true => have := lessB_trans h hb; rw [lessB_irrefl] at this; cases this
theorem putD_sorted {l : List Dir} {f : Dir} (h : l.Pairwise upD) : (putD l f).Pairwise upD := by
  induction l with
  | nil => exact List.pairwise_singleton _ _
  | cons g l ih =>
    rw [List.pairwise_cons] at h
    unfold putD
    rw [List.takeWhile_cons, List.dropWhile_cons]
    cases hg : lessB (textB f.path) (textB g.path) with
    | false =>
      rw [if_pos (by rfl), if_pos (by rfl), List.cons_append, List.pairwise_cons]
      refine ⟨fun y hy => ?_, ih h.2⟩
      have hy' : y ∈ putD l f := hy
      rcases List.mem_append.1 ((putD_perm l f).mem_iff.1 hy') with hy | hy
      · exact h.1 y hy
      · rw [List.mem_singleton.1 hy]; exact hg
    | true =>
      rw [if_neg (by decide), if_neg (by decide), List.nil_append, List.pairwise_cons]
      refine ⟨fun y hy => ?_, List.pairwise_cons.2 h⟩
      rcases List.mem_cons.1 hy with rfl | hy
      · exact less_asD hg
      · exact less_trD (less_asD hg) (h.1 y hy)
theorem sortD_sorted (l : List Dir) : (sortD l).Pairwise upD := by
  unfold sortD
  have : ∀ (l a : List Dir), a.Pairwise upD → (l.foldl putD a).Pairwise upD := fun l => by
    induction l with
    | nil => intro a h; exact h
    | cons f l ih => intro a h; exact ih _ (putD_sorted h)
  exact this l [] List.Pairwise.nil
theorem nodup_textD {l : List Dir} (h : (l.map fun d => textB d.path).Nodup) {a b : Dir} (ha : a ∈ l) (hb : b ∈ l) (e : textB a.path = textB b.path) : a = b := by
  induction l with
  | nil => cases ha
  | cons x l ih =>
    rw [List.map_cons, List.nodup_cons] at h
    rcases List.mem_cons.1 ha with ea | ha' <;> rcases List.mem_cons.1 hb with eb | hb'
    · rw [ea, eb]
    · exact absurd (List.mem_map.2 ⟨b, hb', by rw [← e, ea]⟩) h.1
    · exact absurd (List.mem_map.2 ⟨a, ha', by rw [e, eb]⟩) h.1
    · exact ih h.2 ha' hb'
theorem sortD_unique {l M : List Dir} (hn : (l.map fun d => textB d.path).Nodup) (hp : M.Perm l) (hM : M.Pairwise upD) : M = sortD l := by
  refine List.Perm.eq_of_pairwise (le := upD) ?_ hM (sortD_sorted l) (hp.trans (sortD_perm l).symm)
  intro a b ha hb h1 h2
  refine nodup_textD hn (hp.mem_iff.1 ha) ((sortD_perm l).mem_iff.1 hb) ?_
  unfold upD at h1 h2
  rw [lessB_lt, decide_eq_false_iff_not, List.not_lt] at h1 h2
  exact ByteArray.ext (Array.toList_inj.1 (List.le_antisymm h1 h2))
theorem textB_injD {p q : List ByteArray} (hp : p.all nameB = true) (hq : q.all nameB = true) (h : textB p = textB q) : p = q := by
  unfold textB at h
  rw [if_pos hp, if_pos hq] at h
  have e47 : ∀ l : List ByteArray, l ≠ [] → (⟨#[47]⟩ : ByteArray) ≠ ⟨(joined l).toArray⟩ := fun l hl e => by
    have h1 : ([47] : List UInt8) = joined l := by
      have := congrArg (fun b : ByteArray => b.data.toList) e
      simpa using this
    cases l with
    | nil => exact hl rfl
    | cons x t =>
      rw [joined] at h1
      have h2 := congrArg List.length h1
      have h3 : stepB.data.toList.length = 9 := by decide
      simp only [List.length_append, List.length_cons, List.length_nil] at h2
      omega
  by_cases h1 : p = [] <;> by_cases h2 : q = []
  · rw [h1, h2]
  · rw [if_pos h1, if_neg h2] at h
    exact absurd h (e47 q h2)
  · rw [if_neg h1, if_pos h2] at h
    exact absurd h.symm (e47 p h1)
  · rw [if_neg h1, if_neg h2] at h
    refine joined_inj hp hq ?_
    have := congrArg (fun b : ByteArray => b.data.toList) h
    simpa using this
theorem texts_nodup {q : PlIn} {at_ : Nat} {done : List ByteArray} {st : PlSt} (h : PlInv q at_ done st) : (st.1.map fun d => textB d.path).Nodup := by
  rw [List.nodup_iff_pairwise_ne, List.pairwise_map]
  refine List.pairwise_iff_getElem.2 fun i j hi hj hij e => ?_
  have e2 := textB_injD (h.names _ (List.getElem_mem hi)).1 (h.names _ (List.getElem_mem hj)).1 e
  have h1 := find_nodup h.apart (List.getElem?_eq_getElem hi)
  have h2 := find_nodup h.apart (List.getElem?_eq_getElem hj)
  rw [e2, h2] at h1
  omega
noncomputable def placeR (q : PlIn) : List Dir × Int := match placeE q with
  | .error c => ([], c)
  | .ok st => (sortD st.1, 0)

/-! ### the program's way through a directory's edges -/
noncomputable def ownGo (q : PlIn) (at_ : Nat) (n : Node) : List Edge → PlSt → Except Int PlSt
  | [], st => .ok st
  | e :: l, st => match stepE q at_ (kindP q n e) e st with
    | .error c => .error c
    | .ok st' => ownGo q at_ n l st'
noncomputable def ofKind (q : PlIn) (n : Node) (kind : Nat) (l : List Edge) : List Edge := l.filter fun e => decide (kindP q n e = kind)
theorem kindGo_own (q : PlIn) (at_ : Nat) (n : Node) (kind : Nat) : ∀ (l : List Edge) (st : PlSt), kindGo q at_ n kind l st = ownGo q at_ n (ofKind q n kind l) st
  | [], st => rfl
  | e :: l, st => by
    rw [kindGo]
    unfold ofKind
    by_cases h : kindP q n e = kind
    · rw [if_pos h, List.filter_cons_of_pos (by simp [h]), ownGo, h]
      cases stepE q at_ kind e st with
      | error c => rfl
      | ok st' => exact kindGo_own q at_ n kind l st'
    · rw [if_neg h, List.filter_cons_of_neg (by simp [h])]
      exact kindGo_own q at_ n kind l st
theorem ownGo_append (q : PlIn) (at_ : Nat) (n : Node) : ∀ (a b : List Edge) (st : PlSt), ownGo q at_ n (a ++ b) st = match ownGo q at_ n a st with
    | .error c => .error c
    | .ok st' => ownGo q at_ n b st'
  | [], b, st => rfl
  | e :: a, b, st => by
    rw [List.cons_append, ownGo, ownGo]
    cases stepE q at_ (kindP q n e) e st with
    | error c => rfl
    | ok st' => exact ownGo_append q at_ n a b st'
theorem kindsGo_own (q : PlIn) (at_ : Nat) (n : Node) (st : PlSt) : kindsGo q at_ n [1, 2, 3] st = match kindGo q at_ n 1 n.edges st with
    | .error c => .error c
    | .ok st' => ownGo q at_ n (ofKind q n 2 n.edges ++ ofKind q n 3 n.edges) st' := by
  rw [kindsGo]
  cases kindGo q at_ n 1 n.edges st with
  | error c => rfl
  | ok st1 =>
    simp only
    rw [kindsGo, kindGo_own, ownGo_append]
    cases ownGo q at_ n (ofKind q n 2 n.edges) st1 with
    | error c => rfl
    | ok st2 =>
      simp only
      rw [kindsGo, kindGo_own]
      cases ownGo q at_ n (ofKind q n 3 n.edges) st2 <;> rfl
theorem ownGo_at (q : PlIn) (at_ : Nat) (n : Node) {l : List Edge} {k : Nat} {e : Edge} (h : l[k]? = some e) (st : PlSt) : ownGo q at_ n (l.drop k) st = match stepE q at_ (kindP q n e) e st with
    | .error c => .error c
    | .ok st' => ownGo q at_ n (l.drop (k + 1)) st' := by
  obtain ⟨hk, e'⟩ := List.getElem?_eq_some_iff.1 h
  rw [List.drop_eq_getElem_cons hk, e', ownGo]
theorem ofKind_take {q : PlIn} {n : Node} {kind : Nat} {l : List Edge} {k : Nat} {e : Edge} (h : l[k]? = some e) : ofKind q n kind (l.take (k + 1)) = ofKind q n kind (l.take k) ++ if kindP q n e = kind then [e] else [] := by
  unfold ofKind
  rw [List.take_add_one, h, List.filter_append]
  congr 1
  by_cases hk : kindP q n e = kind
  · rw [if_pos hk]; simp [hk]
  · rw [if_neg hk]; simp [hk]
theorem nodup_map_inj {α β : Type} {f : α → β} : ∀ {l : List α}, (l.map f).Nodup → ∀ {a b : α}, a ∈ l → b ∈ l → f a = f b → a = b
  | [], _, a, b, ha, _, _ => by cases ha
  | x :: l, h, a, b, ha, hb, e => by
    rw [List.map_cons, List.nodup_cons] at h
    rcases List.mem_cons.1 ha with ea | ha' <;> rcases List.mem_cons.1 hb with eb | hb'
    · rw [ea, eb]
    · exact absurd (List.mem_map.2 ⟨b, hb', by rw [← e, ea]⟩) h.1
    · exact absurd (List.mem_map.2 ⟨a, ha', by rw [e, eb]⟩) h.1
    · exact nodup_map_inj h.2 ha' hb' e
theorem ofKind_mem {q : PlIn} {n : Node} {kind : Nat} {l : List Edge} {e : Edge} (h : e ∈ ofKind q n kind l) : e ∈ l ∧ kindP q n e = kind := by
  unfold ofKind at h
  rw [List.mem_filter, decide_eq_true_eq] at h
  exact h
/-- those that are left for the program's second loop -/
noncomputable def restE (q : PlIn) (n : Node) : List Edge := ofKind q n 2 n.edges ++ ofKind q n 3 n.edges
theorem restE_mem {q : PlIn} {n : Node} {e : Edge} (h : e ∈ restE q n) : e ∈ n.edges ∧ 2 ≤ kindP q n e := by
  unfold restE at h
  rcases List.mem_append.1 h with h | h
  · have := ofKind_mem h; exact ⟨this.1, by omega⟩
  · have := ofKind_mem h; exact ⟨this.1, by omega⟩
theorem restE_nodup {q : PlIn} {n : Node} (hn : (edgeNames n.edges).Nodup) : ((restE q n).map (·.label)).Nodup := by
  have sub : ∀ k, ((ofKind q n k n.edges).map (·.label)).Nodup := fun k => ((List.filter_sublist (l := n.edges)).map _).nodup hn
  unfold restE
  rw [List.map_append, List.nodup_append]
  refine ⟨sub 2, sub 3, fun a ha b hb e => ?_⟩
  obtain ⟨x, hx, rfl⟩ := List.mem_map.1 ha
  obtain ⟨y, hy, rfl⟩ := List.mem_map.1 hb
  have h1 := ofKind_mem hx
  have h2 := ofKind_mem hy
  have := nodup_map_inj (f := fun e : Edge => e.label) hn h1.1 h2.1 e
  rw [this] at h1
  omega
theorem rest_start {q : PlIn} {n : Node} {done : List ByteArray} (hn : (edgeNames n.edges).Nodup) (h : DoneAt q n 2 0 done) : ∀ e ∈ (restE q n).drop 0, e.label ∉ done := fun e he hm => by
  obtain ⟨h1, h2⟩ := restE_mem (show e ∈ restE q n from he)
  obtain ⟨j, e', g1, g2, g3⟩ := h _ hm
  have := nodup_map_inj (f := fun e : Edge => e.label) hn (List.mem_of_getElem? g1) h1 g2
  rw [this] at g3
  omega
theorem rest_step {q : PlIn} {n : Node} {done : List ByteArray} {k : Nat} {e : Edge} (hn : (edgeNames n.edges).Nodup) (h : ∀ e ∈ (restE q n).drop k, e.label ∉ done) (he : (restE q n)[k]? = some e) :
    e ∈ n.edges ∧ e.label ∉ done ∧ ∀ e' ∈ (restE q n).drop (k + 1), e'.label ∉ done ++ [e.label] := by
  obtain ⟨hk, e2⟩ := List.getElem?_eq_some_iff.1 he
  have hd : (restE q n).drop k = e :: (restE q n).drop (k + 1) := by rw [List.drop_eq_getElem_cons hk, e2]
  refine ⟨(restE_mem (List.mem_of_getElem? he)).1, h e (by rw [hd]; simp), fun e' he' hm => ?_⟩
  rcases List.mem_append.1 hm with hm | hm
  · exact h e' (by rw [hd]; simp [he']) hm
  · have h1 := restE_nodup hn (q := q)
    have h2 : ((restE q n).drop k |>.map (·.label)).Nodup := ((List.drop_sublist k _).map _).nodup h1
    rw [hd, List.map_cons, List.nodup_cons] at h2
    exact h2.1 (List.mem_map.2 ⟨e', he', List.mem_singleton.1 hm⟩)
end Go.Proofs.YtminjjdnmpaaoaaGreatDoor
