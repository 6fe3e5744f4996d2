/-
  Placing a graph, in plain words: what stays true from edge to edge.
-/
import Derived.Test.YtminjjdnmpaaoaaGreatDoorPp19
set_option autoImplicit false
set_option relaxedAutoImplicit false
set_option linter.unusedVariables false
set_option linter.unusedSimpArgs false
namespace Go.Proofs.YtminjjdnmpaaoaaGreatDoor
open Go

/-! ### finding a path where no two directories have one path -/
theorem dirAt_of {T : List Dir} {i : Nat} {d : Dir} (h : T[i]? = some d) : dirAt T i = d := by
  unfold dirAt; rw [List.getD_eq_getElem?_getD, h]; rfl
theorem pathAt_of {T : List Dir} {i : Nat} {d : Dir} (h : T[i]? = some d) : pathAt T i = d.path := by
  unfold pathAt; rw [dirAt_of h]
theorem dirAt_some {T : List Dir} {i : Nat} (h : i < T.length) : T[i]? = some (dirAt T i) := by
  unfold dirAt; rw [List.getD_eq_getElem?_getD, List.getElem?_eq_getElem h]; rfl
theorem find_nodup {T : List Dir} (hn : (T.map (·.path)).Nodup) {i : Nat} {d : Dir} (h : T[i]? = some d) : findI T d.path = (i : Int) := by
  rcases Int.lt_or_le (findI T d.path) 0 with hl | hl
  · exact absurd rfl (findI_none hl (List.mem_of_getElem? h))
  · obtain ⟨j, hj⟩ : ∃ j : Nat, findI T d.path = (j : Int) := ⟨(findI T d.path).toNat, by omega⟩
    obtain ⟨h1, h2⟩ := findI_sound hj
    obtain ⟨hi, e⟩ := List.getElem?_eq_some_iff.1 h
    rw [hj]
    have : j = i := by
      have h3 : (T.map (·.path))[j]'(by rw [List.length_map]; exact h1) = (T.map (·.path))[i]'(by rw [List.length_map]; exact hi) := by
        rw [List.getElem_map, List.getElem_map, h2, e]
      exact (List.getElem_inj hn).1 h3
    rw [this]
theorem find_some {T : List Dir} {p : List ByteArray} (h : 0 ≤ findI T p) : ∃ (j : Nat) (d : Dir), findI T p = (j : Int) ∧ T[j]? = some d ∧ d.path = p := by
  obtain ⟨j, hj⟩ : ∃ j : Nat, findI T p = (j : Int) := ⟨(findI T p).toNat, by omega⟩
  obtain ⟨h1, h2⟩ := findI_sound hj
  exact ⟨j, _, hj, List.getElem?_eq_getElem h1, h2⟩
theorem underP_iff {p a : List ByteArray} : underP p a = true ↔ a <+: p := by
  unfold underP
  rw [Bool.and_eq_true, decide_eq_true_eq, eqB_iff]
  constructor
  · rintro ⟨_, h⟩
    exact ⟨p.drop a.length, by conv => lhs; rw [← h]
                               rw [h]
                               conv => rhs; rw [← List.take_append_drop a.length p, h]⟩
  · rintro ⟨r, rfl⟩
    exact ⟨by rw [List.length_append]; omega, List.take_left⟩
/-! ### what stays true -/
structure PlInv (q : PlIn) (at_ : Nat) (done : List ByteArray) (st : PlSt) : Prop where
  pos : 0 < st.1.length
  len : st.1.length ≤ 257
  root : ∀ d, st.1[0]? = some d → d.path = [] ∧ d.node = 0 ∧ d.pack = zeroPack
  names : ∀ d ∈ st.1, d.path.all nameB = true ∧ (textB d.path).size ≤ 1024
  up : ∀ (j : Nat) (d : Dir), st.1[j]? = some d → j ≠ 0 → d.path ≠ [] ∧ ∃ (i : Nat) (e : Dir), i < j ∧ st.1[i]? = some e ∧ e.path = d.path.dropLast
  apart : (st.1.map (·.path)).Nodup
  node : ∀ (j : Nat) (d : Dir), st.1[j]? = some d → j ≠ 0 → 1 ≤ d.node ∧ d.node < (q.g.length : Int) ∧ d.pack = packAt q d.node.toNat
  stl : ∀ x ∈ st.2, x.frm < st.1.length ∧ x.dst < st.1.length ∧ (x.frm < at_ ∨ (x.frm = at_ ∧ x.label ∈ done))
  low : ∀ (j : Nat) (d : Dir) (i : Nat) (e : Dir), st.1[j]? = some d → st.1[i]? = some e → at_ ≤ i → j ≠ i → e.path <+: d.path → i = at_ ∧ ∃ s ∈ done, d.path = e.path ++ [s]
theorem PlInv.next {q : PlIn} {at_ : Nat} {done : List ByteArray} {st : PlSt} (h : PlInv q at_ done st) : PlInv q (at_ + 1) [] st :=
  { h with
    stl := fun x hx => by
      obtain ⟨h1, h2, h3⟩ := h.stl x hx
      exact ⟨h1, h2, .inl (by rcases h3 with h3 | h3 <;> omega)⟩
    low := fun j d i e hj hi hle hne hp => by
      have := (h.low j d i e hj hi (by omega) hne hp).1
      omega }
theorem PlInv.start (q : PlIn) : PlInv q 0 [] ([dirZ0], []) where
  pos := by decide
  len := by decide
  root := fun d hd => by cases hd; exact ⟨rfl, rfl, rfl⟩
  names := fun d hd => by rw [List.mem_singleton.1 hd]; exact ⟨rfl, by decide⟩
  up := fun j d hj h0 => by
    cases j with
    | zero => exact absurd rfl h0
    | succ j => cases hj
  apart := by simp
  node := fun j d hj h0 => by
    cases j with
    | zero => exact absurd rfl h0
    | succ j => cases hj
  stl := fun x hx => by cases hx
  low := fun j d i e hj hi _ hne _ => by
    cases j with
    | zero => cases i with
      | zero => exact absurd rfl hne
      | succ i => cases hi
    | succ j => cases hj
/-- each path ahead of a directory's is one of a directory -/
theorem PlInv.closed {q : PlIn} {at_ : Nat} {done : List ByteArray} {st : PlSt} (h : PlInv q at_ done st) : ∀ (n j : Nat) (d : Dir) (k : Nat), st.1[j]? = some d → d.path.length = k + n → ∃ (i : Nat) (e : Dir), i ≤ j ∧ st.1[i]? = some e ∧ e.path = d.path.take k := by
  intro n
  induction n with
  | zero => intro j d k hj hl; exact ⟨j, d, Nat.le_refl _, hj, by rw [List.take_of_length_le (by omega)]⟩
  | succ n ih =>
    intro j d k hj hl
    have h0 : j ≠ 0 := fun e => by
      subst e
      have := (h.root d hj).1
      rw [this, List.length_nil] at hl
      omega
    obtain ⟨_, i, e, hij, hi, he⟩ := h.up j d hj h0
    obtain ⟨i', e', h1, h2, h3⟩ := ih i e k hi (by rw [he, List.length_dropLast]; omega)
    refine ⟨i', e', by omega, h2, ?_⟩
    rw [h3, he, List.dropLast_eq_take, List.take_take, Nat.min_eq_left (by omega)]
theorem PlInv.find {q : PlIn} {at_ : Nat} {done : List ByteArray} {st : PlSt} (h : PlInv q at_ done st) {j : Nat} {d : Dir} (hj : st.1[j]? = some d) {k : Nat} (hk : k ≤ d.path.length) :
    ∃ (i : Nat) (e : Dir), i ≤ j ∧ findI st.1 (d.path.take k) = (i : Int) ∧ st.1[i]? = some e ∧ e.path = d.path.take k := by
  obtain ⟨i, e, h1, h2, h3⟩ := h.closed (d.path.length - k) j d k hj (by omega)
  exact ⟨i, e, h1, by rw [← h3]; exact find_nodup h.apart h2, h2, h3⟩
/-- what stands in another one stands behind it -/
theorem PlInv.behind_ {q : PlIn} {at_ : Nat} {done : List ByteArray} {st : PlSt} (h : PlInv q at_ done st) {i j : Nat} {d e : Dir} (hj : st.1[j]? = some d) (hi : st.1[i]? = some e) (hp : e.path <+: d.path) : i ≤ j := by
  obtain ⟨i', e', h1, h2, h3, h4⟩ := h.find hj (k := e.path.length) hp.length_le
  have : d.path.take e.path.length = e.path := (List.prefix_iff_eq_take.1 hp).symm
  rw [this] at h2
  rw [find_nodup h.apart hi] at h2
  omega
theorem PlInv.fresh {q : PlIn} {at_ : Nat} {done : List ByteArray} {st : PlSt} (h : PlInv q at_ done st) {d : Dir} (hd : st.1[at_]? = some d) {s : ByteArray} (hs : s ∉ done) : findI st.1 (d.path ++ [s]) < 0 := by
  rcases Int.lt_or_le (findI st.1 (d.path ++ [s])) 0 with hl | hl
  · exact hl
  · exfalso
    obtain ⟨j, e, _, hj, hp⟩ := find_some hl
    have hne : j ≠ at_ := fun e' => by
      rw [e'] at hj
      rw [hd] at hj
      cases hj
      have := congrArg List.length hp
      rw [List.length_append, List.length_singleton] at this
      omega
    obtain ⟨_, s', h1, h2⟩ := h.low j e at_ d hj hd (Nat.le_refl _) hne ⟨[s], hp.symm⟩
    rw [hp] at h2
    have := List.append_cancel_left h2
    simp only [List.cons.injEq, and_true] at this
    rw [this] at hs
    exact hs h1
theorem PlInv.quiet {q : PlIn} {at_ : Nat} {done : List ByteArray} {st : PlSt} (h : PlInv q at_ done st) {d : Dir} (hd : st.1[at_]? = some d) {s : ByteArray} (hs : s ∉ done) : turnsB st.1 st.2 at_ s = false := by
  unfold turnsB
  rw [List.any_eq_false]
  intro x hx ht
  unfold turnOne at ht
  simp only [Bool.and_eq_true, decide_eq_true_eq] at ht
  obtain ⟨hl, hu, _⟩ := ht
  obtain ⟨h1, _, h3⟩ := h.stl x hx
  rcases h3 with h3 | ⟨h3, h4⟩
  · have hf := dirAt_some h1
    rw [underP_iff, pathAt_of hd] at hu
    have := h.behind_ hf hd (by rw [pathAt] at hu; exact hu)
    omega
  · rw [hl] at h4; exact hs h4

/-! ### the spot that is taken -/
/-- the program's loop: what it has, it keeps or turns into something better -/
structure SpotOk (T : List Dir) (path : List ByteArray) (s : ByteArray) (r : Int) : Prop where
  lo : 0 ≤ r
  is : ∃ (i : Nat) (e : Dir), r = (i : Int) ∧ T[i]? = some e ∧ e.path <+: path ∧ findI T (e.path ++ [s]) < 0
theorem spotGo_ok {q : PlIn} {at_ : Nat} {done : List ByteArray} {st : PlSt} (h : PlInv q at_ done st) {j : Nat} {d : Dir} (hj : st.1[j]? = some d) (old : Option (List Dir)) (s : ByteArray) (x : Pack) : ∀ (k : Nat) (b l : Int), k ≤ d.path.length + 1 →
    SpotOk st.1 d.path s b → (l = -1 ∨ SpotOk st.1 d.path s l) → SpotOk st.1 d.path s (spotGo st.1 st.2 old d.path s x k (b, l)).1 ∧ ((spotGo st.1 st.2 old d.path s x k (b, l)).2 = -1 ∨ SpotOk st.1 d.path s (spotGo st.1 st.2 old d.path s x k (b, l)).2) := by
  intro k
  induction k with
  | zero => intro b l _ hb hl; exact ⟨hb, hl⟩
  | succ k ih =>
    intro b l hk hb hl
    rw [spotGo]
    by_cases h1 : 0 ≤ findI st.1 (d.path.take k ++ [s])
    · rw [if_pos h1]; exact ⟨hb, hl⟩
    · rw [if_neg h1]
      by_cases h2 : turnsB st.1 st.2 (findI st.1 (d.path.take k)).toNat s = true
      · rw [if_pos h2]; exact ih b l (by omega) hb hl
      · rw [if_neg h2]
        obtain ⟨i, e, _, hi, he, hp⟩ := h.find hj (k := k) (by omega)
        have hok : SpotOk st.1 d.path s (findI st.1 (d.path.take k)) := ⟨by omega, i, e, hi, he, by rw [hp]; exact List.take_prefix _ _, by rw [hp]; omega⟩
        refine ih _ _ (by omega) hok ?_
        split
        · exact .inr hok
        · exact hl
theorem spotI_ok {q : PlIn} {at_ : Nat} {done : List ByteArray} {st : PlSt} (h : PlInv q at_ done st) {d : Dir} (hd : st.1[at_]? = some d) (old : Option (List Dir)) {s : ByteArray} (hs : s ∉ done) (x : Pack) : SpotOk st.1 d.path s (spotI st.1 st.2 old d.path s x) := by
  have h1 := h.fresh hd hs
  have h2 := h.quiet hd hs
  have h3 := find_nodup h.apart hd
  have hok : SpotOk st.1 d.path s (at_ : Int) := ⟨by omega, at_, d, rfl, hd, List.prefix_refl _, h1⟩
  unfold spotI
  rw [spotGo, List.take_length, if_neg (by omega), h3, Int.toNat_natCast, if_neg (by rw [h2]; decide)]
  have h4 := spotGo_ok h hd old s x d.path.length (at_ : Int) (if likedB old (d.path ++ [s]) x = true then (at_ : Int) else -1) (by omega) hok (by
    split
    · exact .inr hok
    · exact .inl rfl)
  generalize spotGo st.1 st.2 old d.path s x d.path.length (at_, if likedB old (d.path ++ [s]) x = true then (at_ : Int) else -1) = r at *
  unfold pickI
  by_cases hl : 0 ≤ r.2
  · rw [if_pos hl]
    rcases h4.2 with e | e
    · rw [e] at hl; exact absurd hl (by decide)
    · exact e
  · rw [if_neg hl]; exact h4.1

/-! ### what a graph that can be placed says -/
theorem may_form {g : List Node} {ps : List Pack} (h : mayPl g ps = true) : 1 ≤ g.length ∧ g.length ≤ 128 ∧ ps.length = g.length ∧ ∀ (j : Nat) (n : Node), g[j]? = some n → ∃ x, ps[j]? = some x ∧ formP g j n x = true := by
  unfold mayPl at h
  simp only [Bool.and_eq_true, decide_eq_true_eq] at h
  refine ⟨h.1, h.2.1, h.2.2.1, fun j n hj => ?_⟩
  have := formGo_at g h.2.2.2 j n hj
  rwa [Nat.zero_add] at this
theorem may_edge {q : PlIn} (h : mayPl q.g q.ps = true) {j : Nat} {n : Node} (hj : q.g[j]? = some n) {e : Edge} (he : e ∈ n.edges) :
    1 ≤ e.to ∧ e.to < (q.g.length : Int) ∧ (nodeAt q e.to.toNat).name = e.label ∧ (packAt q e.to.toNat).name = e.label ∧ packB (packAt q e.to.toNat) = true ∧ nameB e.label = true := by
  obtain ⟨_, _, hz, hall⟩ := may_form h
  obtain ⟨x, hx, hf⟩ := hall j n hj
  unfold formP at hf
  simp only [Bool.and_eq_true] at hf
  obtain ⟨_, ⟨_, hr⟩, hed, _⟩ := hf
  have h1 := List.all_eq_true.1 hed e he
  unfold edgeP at h1
  simp only [Bool.and_eq_true, decide_eq_true_eq] at h1
  obtain ⟨h1, h2, h3⟩ := h1
  have hlt : e.to.toNat < q.g.length := by omega
  rw [List.getElem?_eq_getElem hlt] at h3
  simp only [decide_eq_true_eq] at h3
  have hn : nodeAt q e.to.toNat = q.g[e.to.toNat] := by unfold nodeAt; rw [List.getD_eq_getElem?_getD, List.getElem?_eq_getElem hlt]; rfl
  obtain ⟨y, hy, hf2⟩ := hall e.to.toNat _ (List.getElem?_eq_getElem hlt)
  have hp : packAt q e.to.toNat = y := by unfold packAt; rw [List.getD_eq_getElem?_getD, hy]; rfl
  unfold formP headP at hf2
  rw [if_neg (by omega)] at hf2
  unfold packOk at hf2
  simp only [Bool.and_eq_true, decide_eq_true_eq] at hf2
  refine ⟨h1, h2, by rw [hn, h3], by rw [hp, hf2.1.2.1, h3], by rw [hp]; exact hf2.1.1, ?_⟩
  exact risesGo_names hr e.label (List.mem_map.2 ⟨e, he, rfl⟩)
theorem rises_nodup : ∀ {l : List ByteArray} {p : Option ByteArray}, risesGo p l = true → l.Nodup ∧ ∀ a, p = some a → ∀ x ∈ l, lessB a x = true
  | [], p, _ => ⟨List.nodup_nil, fun a _ x hx => by cases hx⟩
  | s :: l, p, h => by
    rw [risesGo, Bool.and_eq_true, Bool.and_eq_true] at h
    obtain ⟨h1, h2⟩ := rises_nodup h.2
    refine ⟨List.nodup_cons.2 ⟨fun hm => ?_, h1⟩, fun a ha x hx => ?_⟩
    · have := h2 s rfl s hm
      rw [lessB_irrefl] at this
      cases this
    · subst ha
      have hb : lessB a s = true := h.1.2
      rcases List.mem_cons.1 hx with rfl | hx
      · exact hb
      · exact lessB_trans hb (h2 s rfl x hx)
theorem may_labels {q : PlIn} (h : mayPl q.g q.ps = true) {j : Nat} {n : Node} (hj : q.g[j]? = some n) : (edgeNames n.edges).Nodup := by
  obtain ⟨_, _, _, hall⟩ := may_form h
  obtain ⟨x, _, hf⟩ := hall j n hj
  unfold formP at hf
  simp only [Bool.and_eq_true] at hf
  exact (rises_nodup hf.2.1.2).1

/-! ### one directory more -/
theorem put_inv {q : PlIn} {at_ : Nat} {done : List ByteArray} {st : PlSt} (h : PlInv q at_ done st) {d : Dir} (hd : st.1[at_]? = some d) {s : ByteArray} (hs : s ∉ done) (hnm : nameB s = true)
    {node : Nat} (hn1 : 1 ≤ node) (hn2 : node < q.g.length) (hps : (packAt q node).name = s) (hq : q.path ≤ 1024) (hqd : q.dirs ≤ 256)
    {home : Nat} {e : Dir} (hh : st.1[home]? = some e) (hpre : e.path <+: d.path) (hno : findI st.1 (e.path ++ [s]) < 0) {T : List Dir} (hT : putP q st.1 home node = .ok T) :
    T = st.1 ++ [⟨e.path ++ [s], packAt q node, (node : Int)⟩] ∧ PlInv q at_ (done ++ [s]) (T, st.2 ++ [⟨at_, s, st.1.length⟩]) := by
  have hpa : pathAt st.1 home = e.path := pathAt_of hh
  unfold putP at hT
  rw [hpa, hps] at hT
  by_cases c1 : q.path < ((textB (e.path ++ [s])).size : Int)
  · rw [if_pos c1] at hT; cases hT
  rw [if_neg c1] at hT
  by_cases c2 : q.dirs ≤ (st.1.length : Int) - 1
  · rw [if_pos c2] at hT; cases hT
  rw [if_neg c2] at hT
  cases hT
  refine ⟨rfl, ?_⟩
  obtain ⟨nd, hnd⟩ : ∃ nd : Dir, nd = ⟨e.path ++ [s], packAt q node, (node : Int)⟩ := ⟨_, rfl⟩
  have hndp : nd.path = e.path ++ [s] := by rw [hnd]
  rw [← hnd]
  have hnew : ∀ d' ∈ st.1, d'.path ≠ e.path ++ [s] := fun d' hd' => findI_none hno hd'
  have hat : ∀ (j : Nat) (d' : Dir), (st.1 ++ [nd])[j]? = some d' → st.1[j]? = some d' ∨ (j = st.1.length ∧ d' = nd) := fun j d' hj => by
    rcases Nat.lt_trichotomy j st.1.length with hlt | heq | hgt
    · rw [List.getElem?_append_left hlt] at hj; exact .inl hj
    · rw [heq, List.getElem?_append_right (Nat.le_refl _), Nat.sub_self] at hj
      cases hj
      exact .inr ⟨heq, rfl⟩
    · rw [List.getElem?_eq_none (by rw [List.length_append, List.length_singleton]; omega)] at hj
      cases hj
  have hold : ∀ (j : Nat) (d' : Dir), st.1[j]? = some d' → (st.1 ++ [nd])[j]? = some d' := fun j d' hj => by
    rw [List.getElem?_append_left (List.getElem?_eq_some_iff.1 hj).1]; exact hj
  have hhl := (List.getElem?_eq_some_iff.1 hh).1
  have hdl := (List.getElem?_eq_some_iff.1 hd).1
  exact {
    pos := by show 0 < (st.1 ++ [nd]).length; rw [List.length_append]; have := h.pos; omega
    len := by show (st.1 ++ [nd]).length ≤ 257; rw [List.length_append, List.length_singleton]; omega
    root := fun d' hd' => by
      rcases hat 0 d' hd' with hj | ⟨hj, _⟩
      · exact h.root d' hj
      · have := h.pos; omega
    names := fun d' hd' => by
      rcases List.mem_append.1 hd' with hm | hm
      · exact h.names d' hm
      · rw [List.mem_singleton.1 hm, hndp]
        refine ⟨?_, by omega⟩
        rw [List.all_append, (h.names e (List.mem_of_getElem? hh)).1, List.all_cons, hnm]
        rfl
    up := fun j d' hj h0 => by
      rcases hat j d' hj with hj' | ⟨hj', rfl⟩
      · obtain ⟨h1, i, e', h2, h3, h4⟩ := h.up j d' hj' h0
        exact ⟨h1, i, e', h2, hold _ _ h3, h4⟩
      · rw [hndp]
        exact ⟨by simp, home, e, by omega, hold _ _ hh, by rw [List.dropLast_concat]⟩
    apart := by
      show ((st.1 ++ [nd]).map (·.path)).Nodup
      rw [List.map_append, List.nodup_append]
      refine ⟨h.apart, by simp, fun a ha b hb hab => ?_⟩
      obtain ⟨d', hd', rfl⟩ := List.mem_map.1 ha
      have : b = nd.path := by simpa using hb
      rw [this, hndp] at hab
      exact hnew d' hd' hab
    node := fun j d' hj h0 => by
      rcases hat j d' hj with hj' | ⟨_, rfl⟩
      · exact h.node j d' hj' h0
      · rw [hnd]
        exact ⟨by show (1 : Int) ≤ (node : Int); omega, by show (node : Int) < _; omega, by show packAt q node = packAt q (node : Int).toNat; rw [Int.toNat_natCast]⟩
    stl := fun x hx => by
      have hl : (st.1 ++ [nd]).length = st.1.length + 1 := by rw [List.length_append]; rfl
      rcases List.mem_append.1 hx with hm | hm
      · obtain ⟨h1, h2, h3⟩ := h.stl x hm
        refine ⟨by rw [hl]; omega, by rw [hl]; omega, ?_⟩
        rcases h3 with h3 | ⟨h3, h4⟩
        · exact .inl h3
        · exact .inr ⟨h3, List.mem_append.2 (.inl h4)⟩
      · rw [List.mem_singleton.1 hm]
        exact ⟨by rw [hl]; show at_ < _; omega, by rw [hl]; show st.1.length < _; omega, .inr ⟨rfl, by simp⟩⟩
    low := fun j d' i e' hj hi hle hne hp => by
      rcases hat i e' hi with hi' | ⟨hi', rfl⟩
      · rcases hat j d' hj with hj' | ⟨hj', rfl⟩
        · obtain ⟨h1, s', h2, h3⟩ := h.low j d' i e' hj' hi' hle hne hp
          exact ⟨h1, s', List.mem_append.2 (.inl h2), h3⟩
        · rw [hndp] at hp ⊢
          have hp2 : e'.path <+: e.path := by
            rcases List.prefix_concat_iff.1 hp with h1 | h1
            · exact absurd h1 (hnew e' (List.mem_of_getElem? hi'))
            · exact h1
          have hia : i = at_ := by
            by_cases hc : at_ = i
            · exact hc.symm
            · exact (h.low at_ d i e' hd hi' hle hc (hp2.trans hpre)).1
          subst hia
          rw [hd] at hi'
          cases hi'
          have he : e.path = d.path := hpre.eq_of_length_le hp2.length_le
          exact ⟨rfl, s, by simp, by rw [he]⟩
      · rcases hat j d' hj with hj' | ⟨hj', _⟩
        · exfalso
          rw [hndp] at hp
          obtain ⟨i', e2, _, _, h3, h4⟩ := h.find hj' (k := (e.path ++ [s]).length) hp.length_le
          rw [← List.prefix_iff_eq_take.1 hp] at h4
          exact hnew e2 (List.mem_of_getElem? h3) h4
        · omega }
theorem look_lt {T : List Dir} {i : Int} {s : ByteArray} (h : 0 ≤ lookI T i s) : (lookI T i s).toNat < T.length := by
  have := (lookI_range T i s).2
  omega

/-! ### one edge -/
theorem homeP_ok {q : PlIn} {at_ : Nat} {done : List ByteArray} {st : PlSt} (h : PlInv q at_ done st) {d : Dir} (hd : st.1[at_]? = some d) (kind : Nat) {e : Edge} (hs : e.label ∉ done) :
    ∃ (i : Nat) (f : Dir), homeP q st at_ kind e = (i : Int) ∧ st.1[i]? = some f ∧ f.path <+: d.path ∧ findI st.1 (f.path ++ [e.label]) < 0 := by
  unfold homeP
  by_cases hk : kind = 2
  · rw [if_pos hk, pathAt_of hd]
    exact (spotI_ok h hd q.old hs (packAt q e.to.toNat)).is
  · rw [if_neg hk]
    exact ⟨at_, d, rfl, hd, List.prefix_refl _, h.fresh hd hs⟩
theorem stepE_inv {q : PlIn} {at_ : Nat} {done : List ByteArray} {st st' : PlSt} (h : PlInv q at_ done st) (hm : mayPl q.g q.ps = true) (hq : q.path ≤ 1024) (hqd : q.dirs ≤ 256) {d : Dir} (hd : st.1[at_]? = some d)
    {j : Nat} {n : Node} (hn : q.g[j]? = some n) {e : Edge} (he : e ∈ n.edges) (hs : e.label ∉ done) {kind : Nat} (hst : stepE q at_ kind e st = .ok st') :
    PlInv q at_ (done ++ [e.label]) st' ∧ (∃ l, st'.1 = st.1 ++ l) ∧ st'.2.length = st.2.length + 1 := by
  have hdl := (List.getElem?_eq_some_iff.1 hd).1
  unfold stepE at hst
  by_cases hr : rightP q st at_ kind e = true
  · rw [if_pos hr] at hst
    cases hst
    unfold rightP at hr
    simp only [Bool.and_eq_true, decide_eq_true_eq] at hr
    have hlt : (lookI st.1 (at_ : Int) e.label).toNat < st.1.length := by
      have := (lookI_range st.1 (at_ : Int) e.label).2
      omega
    refine ⟨{ h with
      stl := fun x hx => ?_
      low := fun j d' i e' hj hi hle hne hp => ?_ }, ⟨[], by simp⟩, by simp⟩
    · rcases List.mem_append.1 hx with hm | hm
      · obtain ⟨h1, h2, h3⟩ := h.stl x hm
        refine ⟨h1, h2, ?_⟩
        rcases h3 with h3 | ⟨h3, h4⟩
        · exact .inl h3
        · exact .inr ⟨h3, List.mem_append.2 (.inl h4)⟩
      · rw [List.mem_singleton.1 hm]
        exact ⟨hdl, hlt, .inr ⟨rfl, by simp⟩⟩
    · obtain ⟨h1, s, h2, h3⟩ := h.low j d' i e' hj hi hle hne hp
      exact ⟨h1, s, List.mem_append.2 (.inl h2), h3⟩
  rw [if_neg hr] at hst
  by_cases hk1 : kind = 1
  · rw [if_pos hk1] at hst; cases hst
  rw [if_neg hk1] at hst
  obtain ⟨i, f, h1, h2, h3, h4⟩ := homeP_ok h hd kind hs
  rw [h1, Int.toNat_natCast] at hst
  cases hp : putP q st.1 i e.to.toNat with
  | error c => rw [hp] at hst; cases hst
  | ok T =>
    rw [hp] at hst
    cases hst
    obtain ⟨e1, e2, e3, e4, e5, e6⟩ := may_edge hm hn he
    obtain ⟨g1, g2⟩ := put_inv h hd hs e6 (node := e.to.toNat) (by omega) (by omega) e4 hq hqd h2 h3 h4 hp
    exact ⟨g2, ⟨_, g1⟩, by simp⟩

/-! ### a directory's edges, kind by kind -/
/-- which labels are done behind the first k edges of a kind -/
def DoneAt (q : PlIn) (n : Node) (kind k : Nat) (done : List ByteArray) : Prop := ∀ s ∈ done, ∃ (j : Nat) (e : Edge), n.edges[j]? = some e ∧ e.label = s ∧ (kindP q n e < kind ∨ (kindP q n e = kind ∧ j < k))
theorem DoneAt.more {q : PlIn} {n : Node} {kind k : Nat} {done : List ByteArray} (h : DoneAt q n kind k done) {k' : Nat} (hk : k ≤ k') : DoneAt q n kind k' done := fun s hs => by
  obtain ⟨j, e, h1, h2, h3⟩ := h s hs
  exact ⟨j, e, h1, h2, by omega⟩
theorem DoneAt.turn {q : PlIn} {n : Node} {kind k : Nat} {done : List ByteArray} (h : DoneAt q n kind k done) : DoneAt q n (kind + 1) 0 done := fun s hs => by
  obtain ⟨j, e, h1, h2, h3⟩ := h s hs
  exact ⟨j, e, h1, h2, by omega⟩
theorem DoneAt.not {q : PlIn} {n : Node} {kind k : Nat} {done : List ByteArray} (h : DoneAt q n kind k done) (hn : (edgeNames n.edges).Nodup) {e : Edge} (he : n.edges[k]? = some e) (hk : kindP q n e = kind) : e.label ∉ done := fun hm => by
  obtain ⟨j, e', h1, h2, h3⟩ := h _ hm
  obtain ⟨hj, ej⟩ := List.getElem?_eq_some_iff.1 h1
  obtain ⟨hk', ek⟩ := List.getElem?_eq_some_iff.1 he
  have hjk : j = k := by
    have h5 : (edgeNames n.edges)[j]'(by unfold edgeNames; rw [List.length_map]; exact hj) = (edgeNames n.edges)[k]'(by unfold edgeNames; rw [List.length_map]; exact hk') := by
      simp only [edgeNames, List.getElem_map, ej, ek, h2]
    exact (List.getElem_inj hn).1 h5
  subst hjk
  rw [h1] at he
  cases he
  omega
theorem DoneAt.step {q : PlIn} {n : Node} {kind k : Nat} {done : List ByteArray} (h : DoneAt q n kind k done) {e : Edge} (he : n.edges[k]? = some e) (hk : kindP q n e = kind) : DoneAt q n kind (k + 1) (done ++ [e.label]) := fun s hs => by
  rcases List.mem_append.1 hs with hs | hs
  · obtain ⟨j, e', h1, h2, h3⟩ := h s hs
    exact ⟨j, e', h1, h2, by omega⟩
  · exact ⟨k, e, he, (List.mem_singleton.1 hs).symm, .inr ⟨hk, by omega⟩⟩
theorem kindP_range (q : PlIn) (n : Node) (e : Edge) : 1 ≤ kindP q n e ∧ kindP q n e ≤ 3 := by
  unfold kindP
  split
  · decide
  · split <;> decide
theorem kindGo_at (q : PlIn) (at_ : Nat) (n : Node) (kind : Nat) {l : List Edge} {k : Nat} {e : Edge} (h : l[k]? = some e) (st : PlSt) : kindGo q at_ n kind (l.drop k) st = if kindP q n e = kind then (match stepE q at_ kind e st with
      | .error c => .error c
      | .ok st' => kindGo q at_ n kind (l.drop (k + 1)) st') else kindGo q at_ n kind (l.drop (k + 1)) st := by
  obtain ⟨hk, e'⟩ := List.getElem?_eq_some_iff.1 h
  rw [List.drop_eq_getElem_cons hk, e', kindGo]
  rfl
end Go.Proofs.YtminjjdnmpaaoaaGreatDoor
