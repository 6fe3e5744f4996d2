/-
  Ranges folded, in plain words: one list for one set, and what fits.
-/
import Derived.Test.YtldjldkejjeamaaGreatDoorSpanI
import Derived.Test.YtldjldkejjeamaaGreatDoorSParse
set_option autoImplicit false
set_option relaxedAutoImplicit false
set_option linter.unusedVariables false
set_option linter.unusedSimpArgs false
namespace Go.Proofs.YtldjldkejjeamaaGreatDoor

noncomputable def foldQ (kind : Nat) (a b : List Spn) : List Spn × Int := if (spansB a && spansB b) = true then fitR (foldedF kind (rks a) (rks b)) else ([], 21)
theorem foldQ_no {kind : Nat} {a b : List Spn} (h : (spansB a && spansB b) = false) : foldQ kind a b = ([], 21) := by unfold foldQ; rw [h]; rfl
theorem foldQ_yes {kind : Nat} {a b : List Spn} (ha : spansB a = true) (hb : spansB b = true) : foldQ kind a b = fitR (foldedF kind (rks a) (rks b)) := by unfold foldQ; rw [ha, hb]; rfl
theorem ok_rank {v : Ver} (h : v.ok = true) : 0 ≤ v.rank ∧ v.rank ≤ lastR := by
  have hv := verB_iff.1 h
  rw [Ver.rank_ok h]
  unfold rankI lastR
  omega
theorem spans_in0 {l : List Spn} (h : spansB l = true) : In0 (rks l) := by
  obtain ⟨_, h2, h3⟩ := spansB_ok h
  intro x hx
  obtain ⟨_, q2⟩ := nrm_mem h3 hx
  unfold rks at hx
  obtain ⟨s, hs, rfl⟩ := List.mem_map.1 hx
  obtain ⟨o1, o2⟩ := h2 s hs
  exact ⟨(ok_rank o1).1, q2, (ok_rank o2).2⟩
theorem spans_nrm {l : List Spn} (h : spansB l = true) : Nrm 0 (rks l) := (spansB_ok h).2.2
theorem in0_has {l : List Rk} (h : In0 l) {n : Int} (hn : Has l n) : 0 ≤ n ∧ n ≤ lastR := by
  obtain ⟨x, hx, h1, h2⟩ := hn
  have := h x hx
  omega
theorem in0_bnd {l : List Rk} (h : In0 l) : Bnd l := fun x hx => (h x hx).2.2
/-- runs within the ranks, if just such ranks are in them -/
theorem in0_of {l : List Rk} (hn : Nrm 0 l) (hb : ∀ n, Has l n → n ≤ lastR) : In0 l := fun x hx => by
  obtain ⟨q1, q2⟩ := nrm_mem hn hx
  exact ⟨q1, q2, hb x.2 ⟨x, hx, q2, Int.le_refl _⟩⟩
theorem foldedF_in0 (kind : Nat) {a b : List Rk} (ha : In0 a) (hb : In0 b) : In0 (foldedF kind a b) := in0_of (foldedF_has kind ha hb).2 fun n hn => (((foldedF_has kind ha hb).1 n).1 hn).2.1
theorem foldedF_one (kind : Nat) {a b r : List Rk} (ha : In0 a) (hb : In0 b) (hr : Nrm 0 r) (h : ∀ n, Has r n ↔ 0 ≤ n ∧ n ≤ lastR ∧ wantB kind (hasB a n) (hasB b n) = true) : r = foldedF kind a b :=
  nrm_one hr (foldedF_has kind ha hb).2 fun n => (h n).trans ((foldedF_has kind ha hb).1 n).symm
theorem want_m {a b : List Rk} {n : Int} : wantB 109 (hasB a n) (hasB b n) = true ↔ Has a n ∧ Has b n := by
  unfold wantB
  rw [if_pos rfl, Bool.and_eq_true, hasB_iff, hasB_iff]
theorem want_j {a b : List Rk} {n : Int} : wantB 106 (hasB a n) (hasB b n) = true ↔ Has a n ∨ Has b n := by
  unfold wantB
  rw [if_neg (by decide), if_pos rfl, Bool.or_eq_true, hasB_iff, hasB_iff]
theorem want_c {a b : List Rk} {n : Int} : wantB 99 (hasB a n) (hasB b n) = true ↔ Has a n ∧ ¬ Has b n := by
  unfold wantB
  rw [if_neg (by decide), if_neg (by decide), Bool.and_eq_true, hasB_iff]
  by_cases h : Has b n
  · rw [hasB_yes h]; simp [h]
  · rw [hasB_no h]; simp [h]
theorem folded_m {a b : List Rk} (ha : In0 a) (hb : In0 b) {n : Int} : Has (foldedF 109 a b) n ↔ Has a n ∧ Has b n := by
  rw [(foldedF_has 109 ha hb).1 n, want_m]
  exact ⟨fun h => h.2.2, fun h => ⟨(in0_has ha h.1).1, (in0_has ha h.1).2, h⟩⟩
theorem folded_j {a b : List Rk} (ha : In0 a) (hb : In0 b) {n : Int} : Has (foldedF 106 a b) n ↔ Has a n ∨ Has b n := by
  rw [(foldedF_has 106 ha hb).1 n, want_j]
  refine ⟨fun h => h.2.2, fun h => ?_⟩
  have : 0 ≤ n ∧ n ≤ lastR := by
    rcases h with h | h
    · exact in0_has ha h
    · exact in0_has hb h
  exact ⟨this.1, this.2, h⟩
theorem folded_c {a b : List Rk} (ha : In0 a) (hb : In0 b) {n : Int} : Has (foldedF 99 a b) n ↔ Has a n ∧ ¬ Has b n := by
  rw [(foldedF_has 99 ha hb).1 n, want_c]
  exact ⟨fun h => h.2.2, fun h => ⟨(in0_has ha h.1).1, (in0_has ha h.1).2, h⟩⟩
theorem met_folded {a b : List Rk} (ha : In0 a) (hb : In0 b) (na : Nrm 0 a) (nb : Nrm 0 b) : metF a b = foldedF 109 a b := by
  obtain ⟨h1, h2, _⟩ := metF_has _ a b 0 0 (Nat.le_refl _) na nb
  exact nrm_one h2 (foldedF_has 109 ha hb).2 fun n => (h1 n).trans (folded_m ha hb).symm
theorem joined_folded {a b : List Rk} (ha : In0 a) (hb : In0 b) : canon (Has (a ++ b)) = foldedF 106 a b :=
  canon_is (foldedF_has 106 ha hb).2 fun n => (folded_j ha hb).trans has_append.symm
theorem cut_folded {a b : List Rk} (ha : In0 a) (hb : In0 b) (na : Nrm 0 a) (nb : Nrm 0 b) : metF a (othersF 0 b) = foldedF 99 a b := by
  obtain ⟨o1, o2⟩ := othersF_has b 0 nb (in0_bnd hb)
  obtain ⟨h1, h2, _⟩ := metF_has _ a (othersF 0 b) 0 0 (Nat.le_refl _) na o2
  refine nrm_one h2 (foldedF_has 99 ha hb).2 fun n => (h1 n).trans ?_
  rw [folded_c ha hb, o1 n]
  exact ⟨fun h => ⟨h.1, h.2.2.2⟩, fun h => ⟨h.1, (in0_has ha h.1).1, (in0_has ha h.1).2, h.2⟩⟩
theorem spnAt_rank {x : Rk} (h : 0 ≤ x.1 ∧ x.1 ≤ x.2 ∧ x.2 ≤ lastR) : (spnAt x).lo.ok = true ∧ (spnAt x).hi.ok = true ∧ (spnAt x).lo.rank = x.1 ∧ (spnAt x).hi.rank = x.2 := by
  unfold lastR at h
  obtain ⟨a1, a2⟩ := verAt_ok (n := x.1) h.1 (by omega)
  obtain ⟨b1, b2⟩ := verAt_ok (n := x.2) (by omega) h.2.2
  exact ⟨a1, b1, a2, b2⟩
theorem rks_spn {l : List Rk} (h : In0 l) : rks (l.map spnAt) = l := by
  unfold rks
  rw [List.map_map]
  refine (List.map_congr_left fun x hx => ?_).trans (List.map_id _)
  obtain ⟨_, _, h3, h4⟩ := spnAt_rank (h x hx)
  show ((spnAt x).lo.rank, (spnAt x).hi.rank) = x
  rw [h3, h4]
theorem verAt_rank {v : Ver} (h : v.ok = true) : verAt v.rank = v := by
  have hv := verB_iff.1 h
  rw [Ver.rank_ok h]
  unfold verAt rankI
  obtain ⟨x, y, z⟩ := v
  simp only at hv ⊢
  congr 1 <;> omega
theorem spn_rks {l : List Spn} (h : spansB l = true) : (rks l).map spnAt = l := by
  obtain ⟨_, h2, _⟩ := spansB_ok h
  unfold rks
  rw [List.map_map]
  refine (List.map_congr_left fun s hs => ?_).trans (List.map_id _)
  obtain ⟨o1, o2⟩ := h2 s hs
  show (⟨verAt s.lo.rank, verAt s.hi.rank⟩ : Spn) = s
  rw [verAt_rank o1, verAt_rank o2]
theorem spanGo_spn : ∀ {l : List Rk} {a : Int}, Nrm a l → In0 l → spanGo a (l.map spnAt) = true := by
  intro l
  induction l with
  | nil => intro a _ _; rfl
  | cons x l ih =>
    intro a h hi
    obtain ⟨h1, h2, h3⟩ := h
    obtain ⟨o1, o2, r1, r2⟩ := spnAt_rank (hi x (by simp))
    have hr := ih h3 fun y hy => hi y (by simp [hy])
    rw [List.map_cons]
    have e1 : rankR (spnAt x).lo.major (spnAt x).lo.minor (spnAt x).lo.patch = x.1 := r1
    have e2 : rankR (spnAt x).hi.major (spnAt x).hi.minor (spnAt x).hi.patch = x.2 := r2
    have v1 : verB (spnAt x).lo.major (spnAt x).lo.minor (spnAt x).lo.patch = true := o1
    have v2 : verB (spnAt x).hi.major (spnAt x).hi.minor (spnAt x).hi.patch = true := o2
    unfold spanGo
    rw [show (spnAt x).lo.ok = true from o1, show (spnAt x).hi.ok = true from o2, show (spnAt x).lo.rank = x.1 from r1, show (spnAt x).hi.rank = x.2 from r2]
    simp [h1, h2, hr]
/-- what is handed back: the set's list, or none where that is too long -/
theorem fitR_cases {l : List Rk} (hn : Nrm 0 l) (hi : In0 l) :
    (l.length ≤ 64 ∧ fitR l = (l.map spnAt, 0) ∧ spansB (l.map spnAt) = true ∧ rks (l.map spnAt) = l) ∨ (¬ l.length ≤ 64 ∧ fitR l = ([], 26)) := by
  by_cases h : l.length ≤ 64
  · refine .inl ⟨h, by unfold fitR; rw [if_pos h], ?_, rks_spn hi⟩
    rw [spansB_small (by rw [List.length_map]; exact h)]
    exact spanGo_spn hn hi
  · exact .inr ⟨h, by unfold fitR; rw [if_neg h]⟩
theorem fitR_rks {l : List Spn} (h : spansB l = true) : fitR (rks l) = (l, 0) := by
  unfold fitR
  rw [if_pos (by rw [rks_len]; exact (spansB_ok h).1), spn_rks h]
/-- two ranges of one set are one -/
theorem spans_ext {l m : List Spn} (hl : spansB l = true) (hm : spansB m = true) (h : ∀ n, Has (rks l) n ↔ Has (rks m) n) : l = m := by
  rw [← spn_rks hl, ← spn_rks hm, nrm_one (spans_nrm hl) (spans_nrm hm) h]
/-- what two ranges make: a set's one list, or too much -/
theorem foldQ_cases (kind : Nat) {a b : List Spn} (ha : spansB a = true) (hb : spansB b = true) :
    ((foldQ kind a b).2 = 0 ∧ spansB (foldQ kind a b).1 = true ∧ rks (foldQ kind a b).1 = foldedF kind (rks a) (rks b)) ∨ ((foldQ kind a b).2 = 26 ∧ (foldQ kind a b).1 = []) := by
  rw [foldQ_yes ha hb]
  rcases fitR_cases (foldedF_has kind (spans_in0 ha) (spans_in0 hb)).2 (foldedF_in0 kind (spans_in0 ha) (spans_in0 hb)) with ⟨_, e, h1, h2⟩ | ⟨_, e⟩
  · rw [e]; exact .inl ⟨rfl, h1, h2⟩
  · rw [e]; exact .inr ⟨rfl, rfl⟩
end Go.Proofs.YtldjldkejjeamaaGreatDoor
