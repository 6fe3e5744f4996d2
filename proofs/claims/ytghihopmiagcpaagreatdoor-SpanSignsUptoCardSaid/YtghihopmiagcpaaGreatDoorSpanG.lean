/-
  Sets of versions folded by the document: has, added, ends, walked.
-/
import Derived.Test.YtghihopmiagcpaaGreatDoorSpanM
import Derived.Test.YtghihopmiagcpaaGreatDoorSpnP
import Derived.Test.YtghihopmiagcpaaGreatDoorIRow
set_option autoImplicit false
set_option relaxedAutoImplicit false
set_option linter.unusedVariables false
set_option linter.unusedSimpArgs false
namespace Go.Proofs.YtghihopmiagcpaaGreatDoor
open Go.Rows Go.RowKit Go.Shelf Go.Sort

def rks (l : List Spn) : List Rk := l.map fun s => (s.lo.rank, s.hi.rank)
theorem rks_len (l : List Spn) : (rks l).length = l.length := List.length_map _
theorem rks_at {l : List Spn} {k : Nat} (h : k < l.length) : (rks l)[k]'(by rw [rks_len]; exact h) = (l[k].lo.rank, l[k].hi.rank) := by unfold rks; rw [List.getElem_map]
theorem has_take {l : List Rk} {k : Nat} (h : k < l.length) {n : Int} : Has (l.take (k + 1)) n ↔ Has (l.take k) n ∨ (l[k].1 ≤ n ∧ n ≤ l[k].2) := by
  rw [List.take_succ_eq_append_getElem h, has_append, has_one]

set_option maxHeartbeats 2000000 in
set_option maxRecDepth 100000 in
theorem has_any (A : Option Addr) (n c : Nat) (l : List Spn) (N : Int) (w : World) (S : Nat → Prop) (hl : SlV rSpn w S l (.slice A n c)) :
    Calls Tryz.prog 39 #[.slice A n c, .int .i64 N] w fun e w' => e = .returned (.bool (hasB (rks l) N)) ∧ Below w.heap.size w w' := by
  have hnx := hl.n_eq
  have hcx := hl.cap_le
  unfold maxLen at hcx
  have hn63 : n ≤ 9223372036854775807 := by omega
  have HX := Lib.hid (hl.more (S' := fun b => b < w.heap.size) fun b _ hlt => hlt)
  have Hnx := Lib.hid hnx; clear hnx
  clear hl hcx
  go_enter Tryz.func39, Tryz.ntmps39
  go_wp2_with fail
  go_loopw [5] (fun i wr => ∃ (k : Nat), k ≤ n ∧ i = .int .i64 k ∧ Hid (¬ Has ((rks l).take k) N) ∧ Below w.heap.size w wr) (fun i _ => n - (intOf i).toNat)
  case atStart => exact ⟨0, Nat.zero_le _, rfl, by unfold Hid; exact has_nil N, Below.refl _ _⟩
  case round =>
    obtain ⟨k, hk, rfl, Hno, hbel⟩ := hrel
    by_cases hlt : k < n
    case neg =>
      have hlt' : ¬ (k : Int) < (n : Int) := by omega
      have hB : Hid (hasB (rks l) N = false) := by
        have := Hno.out
        rw [List.take_of_length_le (by rw [rks_len]; have := Hnx.out; omega)] at this
        exact hasB_no this
      go_wp2_with fail
      go_ret
      exact ⟨by rw [hB.out]; rfl, hbel⟩
    have hkx : k < l.length := by have := Hnx.out; omega
    have hkI : (k : Int) < (n : Int) := by omega
    have hk0 : (0 : Int) ≤ (k : Int) := by omega
    obtain ⟨b, o, cs, rfl, hSb, _, ⟨rfl, _, _, _, _, _, _⟩, hcell⟩ := HX.out.elem (List.getElem?_eq_getElem hkx)
    have k0 := hcell 0 _ rfl
    have k1 := hcell 1 _ rfl
    have k2 := hcell 2 _ rfl
    have k3 := hcell 3 _ rfl
    have k4 := hcell 4 _ rfl
    have k5 := hcell 5 _ rfl
    simp only [rSpn, Nat.add_zero, Nat.mul_one] at k0 k1 k2 k3 k4 k5
    have Hst := Lib.hid (has_take (l := rks l) (n := N) (by rw [rks_len]; exact hkx))
    rw [rks_at hkx] at Hst
    have c0 := below_cell hbel k0 hSb
    have c1 := below_cell hbel k1 hSb
    have c2 := below_cell hbel k2 hSb
    have HK3 := Lib.hid k3
    have HK4 := Lib.hid k4
    have HK5 := Lib.hid k5
    clear k0 k1 k2 k3 k4 k5 hcell
    have HhB : Hid (Has ((rks l).take (k + 1)) N → hasB (rks l) N = true) := fun h => hasB_yes (by
      obtain ⟨x, hx, h⟩ := h
      exact ⟨x, List.mem_of_mem_take hx, h⟩)
    generalize l[k] = s at *
    obtain ⟨⟨x1, x2, x3⟩, ⟨x4, x5, x6⟩⟩ := s
    simp only [Ver.rank] at c0 c1 c2 HK3 HK4 HK5 Hst
    have H1 := Lib.hid (fun W => refRank_any x1 x2 x3 W)
    have H2 := Lib.hid (fun W => refRank_any x4 x5 x6 W)
    generalize rankR x1 x2 x3 = r1 at *
    generalize rankR x4 x5 x6 = r2 at *
    go_wp2_with fail
    refine (H1.out _).mono ?_
    rintro e w1 ⟨rfl, hb1⟩
    have HB1 := Lib.hid (bot hbel hb1)
    clear hb1 c0 c1 c2 H1
    by_cases h1 : r1 ≤ N
    case neg =>
      have Hno2 : Hid (¬ Has ((rks l).take (k + 1)) N) := fun h => by
        rcases Hst.out.1 h with h | h
        · exact Hno.out h
        · exact h1 h.1
      go_wp2_with fail
      go_roundw
      case rel => exact ⟨k + 1, by omega, by go_num, Hno2, HB1.out⟩
      case measure => simp [intOf]; omega
    have c3 := below_cell HB1.out HK3.out hSb
    have c4 := below_cell HB1.out HK4.out hSb
    have c5 := below_cell HB1.out HK5.out hSb
    go_wp2_with fail
    refine (H2.out _).mono ?_
    rintro e w2 ⟨rfl, hb2⟩
    have HB2 := Lib.hid (bot HB1.out hb2)
    clear hb2 c3 c4 c5 H2
    by_cases h2 : N ≤ r2
    · have Hyes : Hid (hasB (rks l) N = true) := HhB.out (Hst.out.2 (.inr ⟨h1, h2⟩))
      go_wp2_with fail
      go_ret
      exact ⟨by rw [Hyes.out]; rfl, HB2.out⟩
    · have Hno2 : Hid (¬ Has ((rks l).take (k + 1)) N) := fun h => by
        rcases Hst.out.1 h with h | h
        · exact Hno.out h
        · exact h2 h.2
      go_wp2_with fail
      go_roundw
      case rel => exact ⟨k + 1, by omega, by go_num, Hno2, HB2.out⟩
      case measure => simp [intOf]; omega

/-- where a number is put -/
theorem addF_at {l : List Int} {N : Int} {k : Nat} (hs : l.Pairwise (· < ·)) (hk : k ≤ l.length) (hlo : ∀ j (h : j < k), l[j]'(by omega) < N) (hhi : ∀ h : k < l.length, ¬ l[k] < N) :
    addF l N = if (∃ h : k < l.length, l[k] = N) then l else l.take k ++ N :: l.drop k := by
  have e1 : l.takeWhile (fun m => decide (m < N)) = l.take k ∧ l.dropWhile (fun m => decide (m < N)) = l.drop k := by
    clear hs
    induction l generalizing k with
    | nil => simp
    | cons x l ih =>
      cases k with
      | zero =>
        have := hhi (by simp)
        simp only [List.getElem_cons_zero] at this
        simp [List.takeWhile_cons, List.dropWhile_cons, this]
      | succ k =>
        have h0 := hlo 0 (by omega)
        simp only [List.getElem_cons_zero] at h0
        obtain ⟨a1, a2⟩ := ih (k := k) (by simpa using hk) (fun j h => by have := hlo (j + 1) (by omega); simpa using this) (fun h => by have := hhi (by simpa using h); simpa using this)
        simp [List.takeWhile_cons, List.dropWhile_cons, h0, a1, a2]
  unfold addF
  rw [e1.1, e1.2]
  by_cases h : ∃ h : k < l.length, l[k] = N
  · obtain ⟨h1, h2⟩ := h
    rw [if_pos (show N ∈ l by rw [← h2]; exact List.getElem_mem h1), if_pos ⟨h1, h2⟩]
  · rw [if_neg (c := ∃ h : k < l.length, l[k] = N) h, if_neg]
    intro hm
    obtain ⟨j, hj, he⟩ := List.getElem_of_mem hm
    by_cases hjk : j < k
    · have := hlo j hjk; omega
    · by_cases hjk2 : j = k
      · subst hjk2; exact h ⟨hj, he⟩
      · have hkl : k < l.length := by omega
        have := List.pairwise_iff_getElem.1 hs k j hkl hj (by omega)
        have := hhi hkl
        omega
theorem elt_ints : Elt Tryz.prog 3 1 8 := Elt.mk' (z := .int .i64 0) (by kernel_rfl) rfl (by decide)
theorem slvI_drop {w : World} {S : Nat → Prop} {l : List Int} {b o n c k : Nat} (h : SlV rInt w S l (.slice (some ⟨b, o, none⟩) n c)) (hk : k ≤ n) : SlV rInt w S (l.drop k) (.slice (some ⟨b, o + k, none⟩) (n - k) (c - k)) := by
  obtain ⟨A', c', h1, h2, h3, h4, h5⟩ := h
  simp only [List.cons.injEq, Value.slice.injEq, and_true] at h1
  obtain ⟨rfl, rfl, rfl⟩ := h1
  refine ⟨some ⟨b, o + k, none⟩, c - k, by rw [List.length_drop], by rw [List.length_drop]; omega, by omega, (fun e => by cases e), fun hn => ?_⟩
  rw [List.length_drop] at hn
  obtain ⟨b', o', he, hs, hb, hr⟩ := h5 (by omega)
  simp only [Option.some.injEq, Addr.mk.injEq, and_true] at he
  obtain ⟨rfl, rfl⟩ := he
  refine ⟨b, o + k, rfl, hs, hb, fun i x hx => ?_⟩
  rw [List.getElem?_drop] at hx
  obtain ⟨cs, q1, q2⟩ := hr (k + i) x hx
  refine ⟨cs, q1, fun j u hu => ?_⟩
  have := q2 j u hu
  simp only [rInt, Nat.mul_one] at this ⊢
  rw [show o + k + i + j = o + (k + i) + j by omega]
  exact this
theorem slv_cut {α : Type} {r : Rp α} {w : World} {S : Nat → Prop} {l : List α} {A : Option Addr} {n c k : Nat} (h : SlV r w S l (.slice A n c)) (hk : k ≤ l.length) : SlV r w S (l.take k) (.slice A k c) := by
  obtain ⟨A', c', h1, h2, h3, h4, h5⟩ := h
  simp only [List.cons.injEq, Value.slice.injEq, and_true] at h1
  obtain ⟨rfl, _, rfl⟩ := h1
  have hl : (l.take k).length = k := by rw [List.length_take]; omega
  refine ⟨A, c, by rw [hl], by omega, h3, h4, fun hn => ?_⟩
  obtain ⟨b, o, hA, hS, hb, hr⟩ := h5 (by omega)
  refine ⟨b, o, hA, hS, hb, fun i x hx => hr i x ?_⟩
  rw [List.getElem?_take] at hx
  split at hx
  · exact hx
  · cases hx

set_option maxHeartbeats 4000000 in
set_option maxRecDepth 100000 in
theorem added_any (b o n c : Nat) (l : List Int) (N : Int) (w : World) (S : Nat → Prop) (hs : l.Pairwise (· < ·)) (hN : I64 N) (hmax : l.length ≤ 1000000) (h0 : 0 < l.length) (hl : SlV rInt w S l (.slice (some ⟨b, o, none⟩) n c)) :
    Calls Tryz.prog 93 #[.slice (some ⟨b, o, none⟩) n c, .int .i64 N] w fun e w' => ∃ v, e = .returned v ∧ SlV rInt w' (fun _ => True) (addF l N) v ∧ Below w.heap.size w w' := by
  have hnx := hl.n_eq
  have hcx := hl.cap_le
  have hnc : n ≤ c := by obtain ⟨_, _, hv, h1, _⟩ := hl; cases hv; omega
  unfold maxLen at hcx
  have hn63 : n ≤ 1000000 := by omega
  have HX := Lib.hid (hl.more (S' := fun b => b < w.heap.size) fun b _ hlt => hlt)
  have Hs := Lib.hid hs
  have Hnx := Lib.hid hnx; clear hnx
  clear hl hs
  go_enter Tryz.func93, Tryz.ntmps93
  go_wp2_with fail
  go_loopw [5] (fun i wr => ∃ (k : Nat), k ≤ n ∧ i = .int .i64 k ∧ Hid (∀ j (hj : j < k) (hjl : j < l.length), l[j] < N) ∧ w = wr) (fun i _ => n - (intOf i).toNat)
  case atStart => exact ⟨0, Nat.zero_le _, rfl, by unfold Hid; intro j hj; omega, rfl⟩
  case round =>
    obtain ⟨k, hk, rfl, Hlo, rfl⟩ := hrel
    refine dite (∃ h : k < l.length, l[k] < N) (fun hC => ?_) (fun hC => ?_)
    focus
      obtain ⟨hkx, hlt⟩ := hC
      have hkI : (k : Int) < (n : Int) := by have := Hnx.out; omega
      have hk0 : (0 : Int) ≤ (k : Int) := by omega
      obtain ⟨b1, o1, cs1, he, _, _, ⟨rfl, _⟩, hcell⟩ := HX.out.elem (List.getElem?_eq_getElem hkx)
      simp only [Option.some.injEq, Addr.mk.injEq] at he
      obtain ⟨rfl, rfl, _⟩ := he
      have y0 := hcell 0 _ rfl
      simp only [rInt, Nat.add_zero, Nat.mul_one] at y0
      have Hlo2 : Hid (∀ j (hj : j < k + 1) (hjl : j < l.length), l[j] < N) := fun j hj hjl => by
        by_cases hjk : j = k
        · subst hjk; exact hlt
        · exact Hlo.out j (by omega) hjl
      clear hcell
      generalize l[k] = y at *
      go_wp2_with fail
      go_roundw
      case rel => exact ⟨k + 1, by have := Hnx.out; omega, by go_num, Hlo2, trivial⟩
      case measure => simp [intOf]; omega
    have Hat := Lib.hid (addF_at (N := N) (k := k) Hs.out (by have := Hnx.out; omega) (fun j hj => Hlo.out j hj _) (fun h hlt => hC ⟨h, hlt⟩))
    refine dite (∃ h : k < l.length, l[k] = N) (fun hE => ?_) (fun hE => ?_)
    focus
      rw [if_pos hE] at Hat
      obtain ⟨hkx, hlt⟩ := hE
      have hkI : (k : Int) < (n : Int) := by have := Hnx.out; omega
      have hk0 : (0 : Int) ≤ (k : Int) := by omega
      obtain ⟨b1, o1, cs1, he, _, _, ⟨rfl, _⟩, hcell⟩ := HX.out.elem (List.getElem?_eq_getElem hkx)
      simp only [Option.some.injEq, Addr.mk.injEq] at he
      obtain ⟨rfl, rfl, _⟩ := he
      have y0 := hcell 0 _ rfl
      simp only [rInt, Nat.add_zero, Nat.mul_one] at y0
      have hnl : ¬ N < N := by omega
      clear hcell hC
      rw [hlt] at y0
      go_wp2_with fail
      go_ret
      refine ⟨_, rfl, ?_, Below.refl _ _⟩
      rw [Hat.out]
      exact HX.out.more fun _ _ _ => trivial
    rw [if_neg hE] at Hat
    have hcl : ((l.take k).length) = k := by rw [List.length_take]; have := Hnx.out; omega
    have hdl : (l.drop k).length = n - k := by rw [List.length_drop]; have := Hnx.out; omega
    have Hlen := Lib.hid hcl
    have Hdl := Lib.hid hdl
    have HT1 : Hid (SlV rInt w (fun b => b < w.heap.size) (l.take k) (.slice (some ⟨b, o, none⟩) k c)) := slv_cut HX.out (by have := Hnx.out; omega)
    have hkc : k ≤ c := by omega
    have Hout : Hid (addF l N = l.take k ++ N :: l.drop k) := by unfold Hid; rw [Hat.out]
    clear hcl hdl Hat
    refine dite (k < l.length) (fun hkx => ?_) (fun hkx => ?_)
    focus
      have hkI : (k : Int) < (n : Int) := by have := Hnx.out; omega
      have hk0 : (0 : Int) ≤ (k : Int) := by omega
      obtain ⟨b1, o1, cs1, he, _, _, ⟨rfl, _⟩, hcell⟩ := HX.out.elem (List.getElem?_eq_getElem hkx)
      simp only [Option.some.injEq, Addr.mk.injEq] at he
      obtain ⟨rfl, rfl, _⟩ := he
      have y0 := hcell 0 _ rfl
      simp only [rInt, Nat.add_zero, Nat.mul_one] at y0
      have hnl : ¬ l[k] < N := fun h => hC ⟨hkx, h⟩
      have hne : ¬ l[k] = N := fun h => hE ⟨hkx, h⟩
      have hneb : (l[k] == N) = false := by simpa using hne
      clear hcell hC hE
      generalize l[k] = y at *
      go_wp2_with (at_builtin; refine wpList_extend (by rfl) _ _ _ (by rfl) elt_ints Tryz.underlying74 (by rfl) (Own.nil_ rInt w w.heap.size 3 (S := fun _ => False) (fun b h => h.elim)) (fun b => b < w.heap.size) (l.take k) _ _ _ (by rfl) HT1.out (by intro b hb he; simp [Value.ownBlock] at he) (by rw [Hlen.out]; simp [maxLen]; omega) (by rw [Hlen.out]; simp; omega) (by simp) ?_)
    rotate_left
    focus
      have hkI : ¬ (k : Int) < (n : Int) := by have := Hnx.out; omega
      clear hC hE
      go_wp2_with (at_builtin; refine wpList_extend (by rfl) _ _ _ (by rfl) elt_ints Tryz.underlying74 (by rfl) (Own.nil_ rInt w w.heap.size 3 (S := fun _ => False) (fun b h => h.elim)) (fun b => b < w.heap.size) (l.take k) _ _ _ (by rfl) HT1.out (by intro b hb he; simp [Value.ownBlock] at he) (by rw [Hlen.out]; simp [maxLen]; omega) (by rw [Hlen.out]; simp; omega) (by simp) ?_)
    all_goals
      intro v5 w5 hown5 hgrow5 hat5
      have HB5 : Hid (Below w.heap.size w w5) := (Below.refl _ _).grown hgrow5 (Nat.le_refl _) (fun k hk => by simp [Value.ownBlock] at hk)
      have Hown5 := Lib.hid hown5
      have hw5 := HB5.out.size
      clear hown5 hgrow5 hat5
      go_wp2_with (at_builtin; refine wpList_push (by rfl) _ _ _ (by rfl) elt_ints Tryz.underlying74 (by rfl) (Hown5.out.alloc _) ⟨w5.heap.size, 0, none⟩ 1 [.int .i64 N] N (by rfl) ⟨rfl, hN⟩ (news_of w5 #[.int .i64 N] _) (by rw [Hlen.out]; unfold maxLen; omega) (by rw [Hlen.out]; omega) (by simp; omega) (w5.heap.size + 1) (by simp) ?_)
      intro g9 cap9 w9 hown9 hgrow9 hat9 hlt9
      have HB9 := Lib.hid (bgrown (bal HB5.out _) hgrow9 (Hown5.out.alloc _) (Nat.le_refl _))
      have Hown9 := Lib.hid hown9
      clear hown9 hgrow9
      have hown9l : Hid ((l.take k ++ [N]).length = k + 1) := by unfold Hid; rw [List.length_append, Hlen.out]; rfl
      have HV9 : Hid (SlV rInt w9 (fun b => b < w.heap.size) l (.slice (some ⟨b, o, none⟩) n c)) := HX.out.belowSize HB9.out
      have hw9 := HB9.out.size
      have hlb9 := Lib.hid Hown9.out.lt
      clear Hown5 HB5 HT1 hw5
      have HTd := Lib.hid (slvI_drop HV9.out hk)
      refine dite (c = k) (fun hcp => ?_) (fun hcp => ?_)
      · have hnk : n = k := by omega
        have HD0 : Hid (l.drop k = []) := by unfold Hid; exact List.eq_nil_of_length_eq_zero (by rw [Hdl.out]; omega)
        have Hs9 := Lib.hid Hown9.out.slv
        have HE9 : Hid (addF l N = l.take k ++ [N]) := by unfold Hid; rw [Hout.out, HD0.out]
        have hcap9 : k + 1 ≤ cap9 := by
          obtain ⟨_, _, hv, h1, _⟩ := Hown9.out.slv
          simp only [List.cons.injEq, Value.slice.injEq, and_true] at hv
          rw [hown9l.out] at h1
          have := hv.2.2
          omega
        rw [← HE9.out] at Hs9
        have Hmin : Hid (min k l.length = k) := by unfold Hid; have := Hnx.out; omega
        simp only [Hlen.out, Hmin.out] at Hs9 hcap9 ⊢
        subst hcp
        subst hnk
        clear HTd
        go_wp2_with fail
        go_ret
        exact ⟨_, rfl, Hs9.out.more fun _ _ _ => trivial, HB9.out⟩
      · have hcp' : ¬ k = c := fun e => hcp e.symm
        go_wp2_with (at_builtin; refine wpList_extend (by rfl) _ _ _ (by rfl) elt_ints Tryz.underlying74 (by rfl) Hown9.out (fun b => b < w.heap.size) (l.drop k) _ _ _ (by rfl) HTd.out (by intro b hb he; have := (hlb9.out b he).1; omega) (by rw [hown9l.out, Hdl.out]; unfold maxLen; omega) (by rw [hown9l.out, Hdl.out]; omega) hw9 ?_)
        intro v6 w6 hown6 hgrow6 hat6
        have HB6 := Lib.hid (bgrown HB9.out hgrow6 Hown9.out (Nat.le_refl _))
        have Hs6 := Lib.hid hown6.slv
        rw [← Hout.out] at Hs6
        clear hown6 hgrow6 hat6
        go_wp2_with fail
        go_ret
        exact ⟨_, rfl, Hs6.out.more fun _ _ _ => trivial, HB6.out⟩
end Go.Proofs.YtghihopmiagcpaaGreatDoor
