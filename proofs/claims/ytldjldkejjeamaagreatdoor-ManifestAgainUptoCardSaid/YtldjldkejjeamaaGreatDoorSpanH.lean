/-
  Sets of versions folded by runs of ranks: spans, fit, met, others, walked.
  Sets of versions folded by the document: has, added, ends, walked.
  Sets of versions folded by the document: ends, Folded, walked.
-/
import Derived.Test.YtldjldkejjeamaaGreatDoorSpanM
import Derived.Test.YtldjldkejjeamaaGreatDoorSpnP
import Derived.Deep.LoopGhost
import Derived.WalkMore
import Derived.Deep.RegionHeld3
import Derived.Test.YtldjldkejjeamaaGreatDoorIRow
set_option autoImplicit false
set_option relaxedAutoImplicit false
set_option linter.unusedVariables false
set_option linter.unusedSimpArgs false
namespace Go.Proofs.YtldjldkejjeamaaGreatDoor
open Go.Rows Go.RowKit Go.Shelf Go.Sort

def verAt (n : Int) : Ver := ⟨n / 1000 / 1000, n / 1000 % 1000, n % 1000⟩
def spnAt (x : Rk) : Spn := ⟨verAt x.1, verAt x.2⟩
theorem verAt_ok {n : Int} (h0 : 0 ≤ n) (h1 : n ≤ 999999999) : (verAt n).ok = true ∧ (verAt n).rank = n := by
  have hv : verB (n / 1000 / 1000) (n / 1000 % 1000) (n % 1000) = true := verB_iff.2 ⟨by omega, by omega, by omega⟩
  refine ⟨hv, ?_⟩
  unfold verAt Ver.rank rankR
  simp only
  rw [if_pos hv]
  unfold rankI
  omega
theorem verAt_i64 {n : Int} (h0 : 0 ≤ n) (h1 : n ≤ 999999999) : I64 (n / 1000 / 1000) ∧ I64 (n / 1000 % 1000) ∧ I64 (n % 1000) := by
  unfold I64; omega
theorem elt_spn : Elt Tryz.prog 40 6 48 := Elt.mk' (z := .agg #[.int .i64 0, .int .i64 0, .int .i64 0, .int .i64 0, .int .i64 0, .int .i64 0]) (by kernel_rfl) rfl (by decide)

set_option maxHeartbeats 2000000 in
set_option maxRecDepth 100000 in
theorem spansO_any (A : Option Addr) (n c : Nat) (l : List Rk) (w : World) (S : Nat → Prop) (hmax : l.length ≤ 1000000) (hr : ∀ x ∈ l, 0 ≤ x.1 ∧ x.1 ≤ 999999999 ∧ 0 ≤ x.2 ∧ x.2 ≤ 999999999) (hl : SlV rRnk w S l (.slice A n c)) :
    Calls Tryz.prog 130 #[.slice A n c] w fun e w' => ∃ v, e = .returned v ∧ Own rSpn w' w.heap.size 40 v (l.map spnAt) (fun _ => False) ∧ Below w.heap.size w w' := by
  have hnx := hl.n_eq
  have hl' := hl.more (S' := fun b => b < w.heap.size) fun b _ hlt => hlt
  have hn63 : n ≤ 1000000 := by omega
  have Hr := Lib.hid hr
  have Hnx := Lib.hid hnx; clear hnx
  clear hl hr
  go_enter Tryz.func130, Tryz.ntmps130
  go_wp2_with fail
  go_loopw [3, 12] (fun v i wr => ∃ (k : Nat), k ≤ n ∧ i = .int .i64 k ∧ Hid (Own rSpn wr w.heap.size 40 v ((l.take k).map spnAt) (fun _ => False)) ∧ Below w.heap.size w wr) (fun _ i _ => n - (intOf i).toNat)
  case atStart => exact ⟨0, Nat.zero_le _, rfl, Own.nil_ _ _ _ _ (fun b hb => hb.elim), Below.refl _ _⟩
  case round =>
    obtain ⟨k, hk, rfl, Hown, hbel⟩ := hrel
    by_cases hlt : k < n
    · have hkx : k < l.length := by have := Hnx.out; omega
      have hlw := hl'.below hbel (fun b hb => hb)
      have hbw := hbel.size
      obtain ⟨b, o, cs, rfl, hSb, hbl, hsp, hcell⟩ := hlw.elem (List.getElem?_eq_getElem hkx)
      obtain ⟨rfl, _, _⟩ := hsp
      have c0 := hcell 0 _ rfl
      have c1 := hcell 1 _ rfl
      simp only [rRnk, Nat.add_zero, Nat.mul_one] at c0 c1
      clear hcell
      have Htk : Hid ((l.take (k + 1)).map spnAt = (l.take k).map spnAt ++ [spnAt l[k]]) := by
        unfold Hid; rw [List.take_succ_eq_append_getElem hkx, List.map_append]; rfl
      have hlen : ((l.take k).map spnAt).length = k := by simp; omega
      obtain ⟨h1, h2, h3, h4⟩ := Hr.out l[k] (List.getElem_mem hkx)
      clear hlw
      have hkn : (k : Int) < (n : Int) := by omega
      generalize l[k] = s at *
      obtain ⟨x1, x2⟩ := s
      simp only at c0 c1 h1 h2 h3 h4
      have H1 := Lib.hid (fun W => versAt_any x1 h1 h2 W)
      have H2 := Lib.hid (fun W => versAt_any x2 h3 h4 W)
      have Hi1 := Lib.hid (verAt_i64 h1 h2)
      have Hi2 := Lib.hid (verAt_i64 h3 h4)
      have Htk' : Hid ((l.take (k + 1)).map spnAt = (l.take k).map spnAt ++ [⟨⟨x1 / 1000 / 1000, x1 / 1000 % 1000, x1 % 1000⟩, ⟨x2 / 1000 / 1000, x2 / 1000 % 1000, x2 % 1000⟩⟩]) := Htk.out
      clear Htk h1 h2 h3 h4
      generalize (l.take k).map spnAt = done at *
      generalize x1 / 1000 / 1000 = a1 at *
      generalize x1 / 1000 % 1000 = a2 at *
      generalize x1 % 1000 = a3 at *
      generalize x2 / 1000 / 1000 = b1 at *
      generalize x2 / 1000 % 1000 = b2 at *
      generalize x2 % 1000 = b3 at *
      have Hlen := Lib.hid hlen; clear hlen
      go_wp2_with fail
      refine (H1.out _).mono ?_
      rintro e w1 ⟨rfl, hb1⟩
      have e1 := hb1.cell (p := ⟨wr.heap.size, 1, none⟩) (by simp)
      simp [go_sem] at e1
      have Hb1 := Lib.hid (bnew hb1)
      have hz1 : wr.heap.size < w1.heap.size := by have := hb1.size; simp at this; omega
      clear hb1
      go_wp2_with fail
      refine (H2.out _).mono ?_
      rintro e w2 ⟨rfl, hb2⟩
      have d0 := hb2.cell (p := ⟨w1.heap.size, 0, none⟩) (by simp)
      have d1 := hb2.cell (p := ⟨w1.heap.size, 1, none⟩) (by simp)
      have d2 := hb2.cell (p := ⟨w1.heap.size, 2, none⟩) (by simp)
      simp [go_sem] at d0 d1 d2
      have Hb2 := Lib.hid (bot Hb1.out (bnew hb2))
      have hz2 : w1.heap.size < w2.heap.size := by have := hb2.size; simp at this; omega
      clear hb2 e1 c0 c1
      have HB := Lib.hid (bot hbel Hb2.out)
      have Hown2 := Lib.hid (Hown.out.keep Hb2.out)
      have hw2 := HB.out.size
      have hne : w1.heap.size ≠ w2.heap.size := by omega
      go_wp2_with (at_builtin; refine wpList_push (by rfl) _ _ _ (by rfl) elt_spn Tryz.underlying36 (by rfl) ((Hown2.out.alloc _).alloc _) ⟨w2.heap.size + 1, 0, none⟩ 1 [.int .i64 a1, .int .i64 a2, .int .i64 a3, .int .i64 b1, .int .i64 b2, .int .i64 b3] ⟨⟨a1, a2, a3⟩, ⟨b1, b2, b3⟩⟩ (by simp [go_sem]) ⟨rfl, Hi1.out.1, Hi1.out.2.1, Hi1.out.2.2, Hi2.out.1, Hi2.out.2.1, Hi2.out.2.2⟩ (by intro j u hu; have := news_of (w2.alloc (.cells #[.int .i64 b1, .int .i64 b2, .int .i64 b3] 23)) #[.int .i64 a1, .int .i64 a2, .int .i64 a3, .int .i64 b1, .int .i64 b2, .int .i64 b3] 40 j u hu; simpa using this) (by rw [Hlen.out]; unfold maxLen; omega) (by rw [Hlen.out]; omega) (by simp; omega) (w2.heap.size + 2) (by simp) ?_)
      intro g cap w3 hown3 hgrow hat hg3
      have HB3 := Lib.hid (bgrown (bal (bal HB.out _) _) hgrow ((Hown2.out.alloc _).alloc _) (Nat.le_refl _))
      have Hown3 := Lib.hid hown3
      clear hown3 hgrow
      go_wp2_with fail
      go_roundw
      case rel => exact ⟨k + 1, by omega, by go_num, by unfold Hid; rw [Htk'.out]; exact Hown3.out, HB3.out⟩
      case measure => simp [intOf]; omega
    · have hkn : k = l.length := by have := Hnx.out; omega
      have hs := Hown.out
      rw [hkn, List.take_length] at hs
      clear hkn
      go_wp2_with fail
      go_ret
      exact ⟨_, rfl, hs, hbel⟩
theorem spans_any (A : Option Addr) (n c : Nat) (l : List Rk) (w : World) (S : Nat → Prop) (hmax : l.length ≤ 1000000) (hr : ∀ x ∈ l, 0 ≤ x.1 ∧ x.1 ≤ 999999999 ∧ 0 ≤ x.2 ∧ x.2 ≤ 999999999) (hl : SlV rRnk w S l (.slice A n c)) :
    Calls Tryz.prog 130 #[.slice A n c] w fun e w' => ∃ v, e = .returned v ∧ SlV rSpn w' (fun b => w.heap.size ≤ b) (l.map spnAt) v ∧ Below w.heap.size w w' :=
  (spansO_any A n c l w S hmax hr hl).mono fun e w' ⟨v, he, ho, hb⟩ => ⟨v, he, ho.slvB, hb⟩

/-- what is handed back: a range that has not too many spans -/
def fitR (l : List Rk) : List Spn × Int := if l.length ≤ 64 then (l.map spnAt, 0) else ([], 26)
set_option maxRecDepth 100000 in
theorem fitO_any (A : Option Addr) (n c : Nat) (l : List Rk) (w : World) (S : Nat → Prop) (hr : ∀ x ∈ l, 0 ≤ x.1 ∧ x.1 ≤ 999999999 ∧ 0 ≤ x.2 ∧ x.2 ≤ 999999999) (hl : SlV rRnk w S l (.slice A n c)) :
    Calls Tryz.prog 105 #[.slice A n c] w fun e w' => ∃ v, e = .returned (.tuple #[v, .int .i64 (fitR l).2]) ∧ Own rSpn w' w.heap.size 40 v (fitR l).1 (fun _ => False) ∧ Below w.heap.size w w' := by
  have hnx := hl.n_eq
  have hcx := hl.cap_le
  unfold maxLen at hcx
  by_cases h : n ≤ 64
  · have hf : fitR l = (l.map spnAt, 0) := by unfold fitR; rw [if_pos (by omega)]
    rw [hf]
    have H1 := Lib.hid (spansO_any A n c l w S (by omega) hr hl)
    have hn : ¬ (64 : Int) < (n : Int) := by omega
    clear hr hl hf hnx hcx
    go_enter Tryz.func105, Tryz.ntmps105
    go_wp2_with fail
    refine H1.out.mono ?_
    rintro e w1 ⟨v, rfl, hv, hb⟩
    have Hv := Lib.hid hv
    clear hv
    go_wp2_with fail
    go_ret2
    exact ⟨v, rfl, Hv.out, hb⟩
  · have hf : fitR l = ([], 26) := by unfold fitR; rw [if_neg (by omega)]
    rw [hf]
    have hn : (64 : Int) < (n : Int) := by omega
    clear hr hl hf hnx
    go_enter Tryz.func105, Tryz.ntmps105
    go_wp2_with fail
    go_ret2
    exact ⟨_, rfl, Own.nil_ _ _ _ _ (fun b hb => hb.elim), Below.refl _ _⟩
theorem fit_any (A : Option Addr) (n c : Nat) (l : List Rk) (w : World) (S : Nat → Prop) (hr : ∀ x ∈ l, 0 ≤ x.1 ∧ x.1 ≤ 999999999 ∧ 0 ≤ x.2 ∧ x.2 ≤ 999999999) (hl : SlV rRnk w S l (.slice A n c)) :
    Calls Tryz.prog 105 #[.slice A n c] w fun e w' => ∃ v, e = .returned (.tuple #[v, .int .i64 (fitR l).2]) ∧ SlV rSpn w' (fun b => w.heap.size ≤ b) (fitR l).1 v ∧ Below w.heap.size w w' :=
  (fitO_any A n c l w S hr hl).mono fun e w' ⟨v, he, ho, hb⟩ => ⟨v, he, ho.slvB, hb⟩

def Small (l : List Rk) : Prop := ∀ x ∈ l, x.1.natAbs ≤ 4000000000 ∧ x.2.natAbs ≤ 4000000000
theorem Small.i64 {l : List Rk} (h : Small l) {x : Rk} (hx : x ∈ l) : I64 x.1 ∧ I64 x.2 := by have := h x hx; unfold I64; omega
theorem metF_step {a b : List Rk} {i k : Nat} (hi : i < a.length) (hk : k < b.length) :
    metF (a.drop i) (b.drop k) = (if max a[i].1 b[k].1 ≤ min a[i].2 b[k].2 then [(max a[i].1 b[k].1, min a[i].2 b[k].2)] else []) ++ (if a[i].2 < b[k].2 then metF (a.drop (i + 1)) (b.drop k) else metF (a.drop i) (b.drop (k + 1))) := by
  have e1 := List.drop_eq_getElem_cons hi
  have e2 := List.drop_eq_getElem_cons hk
  rw [e1, e2, metF, ← e1, ← e2]
theorem mx_max (a b : Int) : (if b > a then b else a) = max a b := by split <;> omega
theorem mn_min (a b : Int) : (if b < a then b else a) = min a b := by split <;> omega

theorem othersF_step {l : List Rk} {k : Nat} (h : k < l.length) (f : Int) : othersF f (l.drop k) = (if f < l[k].1 then [(f, l[k].1 - 1)] else []) ++ othersF (l[k].2 + 1) (l.drop (k + 1)) := by
  rw [List.drop_eq_getElem_cons h, othersF]

end Go.Proofs.YtldjldkejjeamaaGreatDoor
set_option autoImplicit false
set_option relaxedAutoImplicit false
set_option linter.unusedVariables false
set_option linter.unusedSimpArgs false
namespace Go.Proofs.YtldjldkejjeamaaGreatDoor
open Go.Rows Go.RowKit Go.Shelf Go.Sort

def rks (l : List Spn) : List Rk := l.map fun s => (s.lo.rank, s.hi.rank)
theorem rks_len (l : List Spn) : (rks l).length = l.length := List.length_map _
theorem rks_at {l : List Spn} {k : Nat} (h : k < l.length) : (rks l)[k]'(by rw [rks_len]; exact h) = (l[k].lo.rank, l[k].hi.rank) := by unfold rks; rw [List.getElem_map]
theorem has_take {l : List Rk} {k : Nat} (h : k < l.length) {n : Int} : Has (l.take (k + 1)) n ↔ Has (l.take k) n ∨ (l[k].1 ≤ n ∧ n ≤ l[k].2) := by
  rw [List.take_succ_eq_append_getElem h, has_append, has_one]

set_option maxHeartbeats 2000000 in
set_option maxRecDepth 100000 in
theorem has_any (A : Option Addr) (n c : Nat) (l : List Spn) (N : Int) (w : World) (S : Nat → Prop) (hl : SlV rSpn w S l (.slice A n c)) :
    Calls Tryz.prog 95 #[.slice A n c, .int .i64 N] w fun e w' => e = .returned (.bool (hasB (rks l) N)) ∧ Below w.heap.size w w' := by
  have hnx := hl.n_eq
  have hcx := hl.cap_le
  unfold maxLen at hcx
  have hn63 : n ≤ 9223372036854775807 := by omega
  have HX := Lib.hid (hl.more (S' := fun b => b < w.heap.size) fun b _ hlt => hlt)
  have Hnx := Lib.hid hnx; clear hnx
  clear hl hcx
  go_enter Tryz.func95, Tryz.ntmps95
  go_wp2_with fail
  go_loopw [5] (fun i wr => ∃ (k : Nat), k ≤ n ∧ i = .int .i64 k ∧ Hid (¬ Has ((rks l).take k) N) ∧ Below w.heap.size w wr) (fun i _ => n - (intOf i).toNat)
  case atStart => exact ⟨0, Nat.zero_le _, rfl, by unfold Hid; exact has_nil N, Below.refl _ _⟩
  case round =>
    obtain ⟨k, hk, rfl, Hno, hbel⟩ := hrel
    by_cases hlt : k < n
    case neg =>
      have hlt' : ¬ (k : Int) < (n : Int) := by omega
      have hB : Hid (hasB (rks l) N = false) := by
        have := Hno.out
        rw [List.take_of_length_le (by rw [rks_len]; have := Hnx.out; omega)] at this
        exact hasB_no this
      go_wp2_with fail
      go_ret
      exact ⟨by rw [hB.out]; rfl, hbel⟩
    have hkx : k < l.length := by have := Hnx.out; omega
    have hkI : (k : Int) < (n : Int) := by omega
    have hk0 : (0 : Int) ≤ (k : Int) := by omega
    obtain ⟨b, o, cs, rfl, hSb, _, ⟨rfl, _, _, _, _, _, _⟩, hcell⟩ := HX.out.elem (List.getElem?_eq_getElem hkx)
    have k0 := hcell 0 _ rfl
    have k1 := hcell 1 _ rfl
    have k2 := hcell 2 _ rfl
    have k3 := hcell 3 _ rfl
    have k4 := hcell 4 _ rfl
    have k5 := hcell 5 _ rfl
    simp only [rSpn, Nat.add_zero, Nat.mul_one] at k0 k1 k2 k3 k4 k5
    have Hst := Lib.hid (has_take (l := rks l) (n := N) (by rw [rks_len]; exact hkx))
    rw [rks_at hkx] at Hst
    have c0 := below_cell hbel k0 hSb
    have c1 := below_cell hbel k1 hSb
    have c2 := below_cell hbel k2 hSb
    have HK3 := Lib.hid k3
    have HK4 := Lib.hid k4
    have HK5 := Lib.hid k5
    clear k0 k1 k2 k3 k4 k5 hcell
    have HhB : Hid (Has ((rks l).take (k + 1)) N → hasB (rks l) N = true) := fun h => hasB_yes (by
      obtain ⟨x, hx, h⟩ := h
      exact ⟨x, List.mem_of_mem_take hx, h⟩)
    generalize l[k] = s at *
    obtain ⟨⟨x1, x2, x3⟩, ⟨x4, x5, x6⟩⟩ := s
    simp only [Ver.rank] at c0 c1 c2 HK3 HK4 HK5 Hst
    have H1 := Lib.hid (fun W => refRank_any x1 x2 x3 W)
    have H2 := Lib.hid (fun W => refRank_any x4 x5 x6 W)
    generalize rankR x1 x2 x3 = r1 at *
    generalize rankR x4 x5 x6 = r2 at *
    go_wp2_with fail
    refine (H1.out _).mono ?_
    rintro e w1 ⟨rfl, hb1⟩
    have HB1 := Lib.hid (bot hbel hb1)
    clear hb1 c0 c1 c2 H1
    by_cases h1 : r1 ≤ N
    case neg =>
      have Hno2 : Hid (¬ Has ((rks l).take (k + 1)) N) := fun h => by
        rcases Hst.out.1 h with h | h
        · exact Hno.out h
        · exact h1 h.1
      go_wp2_with fail
      go_roundw
      case rel => exact ⟨k + 1, by omega, by go_num, Hno2, HB1.out⟩
      case measure => simp [intOf]; omega
    have c3 := below_cell HB1.out HK3.out hSb
    have c4 := below_cell HB1.out HK4.out hSb
    have c5 := below_cell HB1.out HK5.out hSb
    go_wp2_with fail
    refine (H2.out _).mono ?_
    rintro e w2 ⟨rfl, hb2⟩
    have HB2 := Lib.hid (bot HB1.out hb2)
    clear hb2 c3 c4 c5 H2
    by_cases h2 : N ≤ r2
    · have Hyes : Hid (hasB (rks l) N = true) := HhB.out (Hst.out.2 (.inr ⟨h1, h2⟩))
      go_wp2_with fail
      go_ret
      exact ⟨by rw [Hyes.out]; rfl, HB2.out⟩
    · have Hno2 : Hid (¬ Has ((rks l).take (k + 1)) N) := fun h => by
        rcases Hst.out.1 h with h | h
        · exact Hno.out h
        · exact h2 h.2
      go_wp2_with fail
      go_roundw
      case rel => exact ⟨k + 1, by omega, by go_num, Hno2, HB2.out⟩
      case measure => simp [intOf]; omega

/-- where a number is put -/
theorem addF_at {l : List Int} {N : Int} {k : Nat} (hs : l.Pairwise (· < ·)) (hk : k ≤ l.length) (hlo : ∀ j (h : j < k), l[j]'(by omega) < N) (hhi : ∀ h : k < l.length, ¬ l[k] < N) :
    addF l N = if (∃ h : k < l.length, l[k] = N) then l else l.take k ++ N :: l.drop k := by
  have e1 : l.takeWhile (fun m => decide (m < N)) = l.take k ∧ l.dropWhile (fun m => decide (m < N)) = l.drop k := by
    clear hs
    induction l generalizing k with
    | nil => simp
    | cons x l ih =>
      cases k with
      | zero =>
        have := hhi (by simp)
        simp only [List.getElem_cons_zero] at this
        simp [List.takeWhile_cons, List.dropWhile_cons, this]
      | succ k =>
        have h0 := hlo 0 (by omega)
        simp only [List.getElem_cons_zero] at h0
        obtain ⟨a1, a2⟩ := ih (k := k) (by simpa using hk) (fun j h => by have := hlo (j + 1) (by omega); simpa using this) (fun h => by have := hhi (by simpa using h); simpa using this)
        simp [List.takeWhile_cons, List.dropWhile_cons, h0, a1, a2]
  unfold addF
  rw [e1.1, e1.2]
  by_cases h : ∃ h : k < l.length, l[k] = N
  · obtain ⟨h1, h2⟩ := h
    rw [if_pos (show N ∈ l by rw [← h2]; exact List.getElem_mem h1), if_pos ⟨h1, h2⟩]
  · rw [if_neg (c := ∃ h : k < l.length, l[k] = N) h, if_neg]
    intro hm
    obtain ⟨j, hj, he⟩ := List.getElem_of_mem hm
    by_cases hjk : j < k
    · have := hlo j hjk; omega
    · by_cases hjk2 : j = k
      · subst hjk2; exact h ⟨hj, he⟩
      · have hkl : k < l.length := by omega
        have := List.pairwise_iff_getElem.1 hs k j hkl hj (by omega)
        have := hhi hkl
        omega
theorem elt_ints : Elt Tryz.prog 3 1 8 := Elt.mk' (z := .int .i64 0) (by kernel_rfl) rfl (by decide)
theorem slvI_drop {w : World} {S : Nat → Prop} {l : List Int} {b o n c k : Nat} (h : SlV rInt w S l (.slice (some ⟨b, o, none⟩) n c)) (hk : k ≤ n) : SlV rInt w S (l.drop k) (.slice (some ⟨b, o + k, none⟩) (n - k) (c - k)) := by
  obtain ⟨A', c', h1, h2, h3, h4, h5⟩ := h
  simp only [List.cons.injEq, Value.slice.injEq, and_true] at h1
  obtain ⟨rfl, rfl, rfl⟩ := h1
  refine ⟨some ⟨b, o + k, none⟩, c - k, by rw [List.length_drop], by rw [List.length_drop]; omega, by omega, (fun e => by cases e), fun hn => ?_⟩
  rw [List.length_drop] at hn
  obtain ⟨b', o', he, hs, hb, hr⟩ := h5 (by omega)
  simp only [Option.some.injEq, Addr.mk.injEq, and_true] at he
  obtain ⟨rfl, rfl⟩ := he
  refine ⟨b, o + k, rfl, hs, hb, fun i x hx => ?_⟩
  rw [List.getElem?_drop] at hx
  obtain ⟨cs, q1, q2⟩ := hr (k + i) x hx
  refine ⟨cs, q1, fun j u hu => ?_⟩
  have := q2 j u hu
  simp only [rInt, Nat.mul_one] at this ⊢
  rw [show o + k + i + j = o + (k + i) + j by omega]
  exact this
theorem slv_cut {α : Type} {r : Rp α} {w : World} {S : Nat → Prop} {l : List α} {A : Option Addr} {n c k : Nat} (h : SlV r w S l (.slice A n c)) (hk : k ≤ l.length) : SlV r w S (l.take k) (.slice A k c) := by
  obtain ⟨A', c', h1, h2, h3, h4, h5⟩ := h
  simp only [List.cons.injEq, Value.slice.injEq, and_true] at h1
  obtain ⟨rfl, _, rfl⟩ := h1
  have hl : (l.take k).length = k := by rw [List.length_take]; omega
  refine ⟨A, c, by rw [hl], by omega, h3, h4, fun hn => ?_⟩
  obtain ⟨b, o, hA, hS, hb, hr⟩ := h5 (by omega)
  refine ⟨b, o, hA, hS, hb, fun i x hx => hr i x ?_⟩
  rw [List.getElem?_take] at hx
  split at hx
  · exact hx
  · cases hx

set_option maxHeartbeats 4000000 in
set_option maxRecDepth 100000 in
theorem added_any (b o n c : Nat) (l : List Int) (N : Int) (w : World) (S : Nat → Prop) (hs : l.Pairwise (· < ·)) (hN : I64 N) (hmax : l.length ≤ 1000000) (h0 : 0 < l.length) (hl : SlV rInt w S l (.slice (some ⟨b, o, none⟩) n c)) :
    Calls Tryz.prog 123 #[.slice (some ⟨b, o, none⟩) n c, .int .i64 N] w fun e w' => ∃ v, e = .returned v ∧ SlV rInt w' (fun _ => True) (addF l N) v ∧ Below w.heap.size w w' := by
  have hnx := hl.n_eq
  have hcx := hl.cap_le
  have hnc : n ≤ c := by obtain ⟨_, _, hv, h1, _⟩ := hl; cases hv; omega
  unfold maxLen at hcx
  have hn63 : n ≤ 1000000 := by omega
  have HX := Lib.hid (hl.more (S' := fun b => b < w.heap.size) fun b _ hlt => hlt)
  have Hs := Lib.hid hs
  have Hnx := Lib.hid hnx; clear hnx
  clear hl hs
  go_enter Tryz.func123, Tryz.ntmps123
  go_wp2_with fail
  go_loopw [5] (fun i wr => ∃ (k : Nat), k ≤ n ∧ i = .int .i64 k ∧ Hid (∀ j (hj : j < k) (hjl : j < l.length), l[j] < N) ∧ w = wr) (fun i _ => n - (intOf i).toNat)
  case atStart => exact ⟨0, Nat.zero_le _, rfl, by unfold Hid; intro j hj; omega, rfl⟩
  case round =>
    obtain ⟨k, hk, rfl, Hlo, rfl⟩ := hrel
    refine dite (∃ h : k < l.length, l[k] < N) (fun hC => ?_) (fun hC => ?_)
    focus
      obtain ⟨hkx, hlt⟩ := hC
      have hkI : (k : Int) < (n : Int) := by have := Hnx.out; omega
      have hk0 : (0 : Int) ≤ (k : Int) := by omega
      obtain ⟨b1, o1, cs1, he, _, _, ⟨rfl, _⟩, hcell⟩ := HX.out.elem (List.getElem?_eq_getElem hkx)
      simp only [Option.some.injEq, Addr.mk.injEq] at he
      obtain ⟨rfl, rfl, _⟩ := he
      have y0 := hcell 0 _ rfl
      simp only [rInt, Nat.add_zero, Nat.mul_one] at y0
      have Hlo2 : Hid (∀ j (hj : j < k + 1) (hjl : j < l.length), l[j] < N) := fun j hj hjl => by
        by_cases hjk : j = k
        · subst hjk; exact hlt
        · exact Hlo.out j (by omega) hjl
      clear hcell
      generalize l[k] = y at *
      go_wp2_with fail
      go_roundw
      case rel => exact ⟨k + 1, by have := Hnx.out; omega, by go_num, Hlo2, trivial⟩
      case measure => simp [intOf]; omega
    have Hat := Lib.hid (addF_at (N := N) (k := k) Hs.out (by have := Hnx.out; omega) (fun j hj => Hlo.out j hj _) (fun h hlt => hC ⟨h, hlt⟩))
    refine dite (∃ h : k < l.length, l[k] = N) (fun hE => ?_) (fun hE => ?_)
    focus
      rw [if_pos hE] at Hat
      obtain ⟨hkx, hlt⟩ := hE
      have hkI : (k : Int) < (n : Int) := by have := Hnx.out; omega
      have hk0 : (0 : Int) ≤ (k : Int) := by omega
      obtain ⟨b1, o1, cs1, he, _, _, ⟨rfl, _⟩, hcell⟩ := HX.out.elem (List.getElem?_eq_getElem hkx)
      simp only [Option.some.injEq, Addr.mk.injEq] at he
      obtain ⟨rfl, rfl, _⟩ := he
      have y0 := hcell 0 _ rfl
      simp only [rInt, Nat.add_zero, Nat.mul_one] at y0
      have hnl : ¬ N < N := by omega
      clear hcell hC
      rw [hlt] at y0
      go_wp2_with fail
      go_ret
      refine ⟨_, rfl, ?_, Below.refl _ _⟩
      rw [Hat.out]
      exact HX.out.more fun _ _ _ => trivial
    rw [if_neg hE] at Hat
    have hcl : ((l.take k).length) = k := by rw [List.length_take]; have := Hnx.out; omega
    have hdl : (l.drop k).length = n - k := by rw [List.length_drop]; have := Hnx.out; omega
    have Hlen := Lib.hid hcl
    have Hdl := Lib.hid hdl
    have HT1 : Hid (SlV rInt w (fun b => b < w.heap.size) (l.take k) (.slice (some ⟨b, o, none⟩) k c)) := slv_cut HX.out (by have := Hnx.out; omega)
    have hkc : k ≤ c := by omega
    have Hout : Hid (addF l N = l.take k ++ N :: l.drop k) := by unfold Hid; rw [Hat.out]
    clear hcl hdl Hat
    refine dite (k < l.length) (fun hkx => ?_) (fun hkx => ?_)
    focus
      have hkI : (k : Int) < (n : Int) := by have := Hnx.out; omega
      have hk0 : (0 : Int) ≤ (k : Int) := by omega
      obtain ⟨b1, o1, cs1, he, _, _, ⟨rfl, _⟩, hcell⟩ := HX.out.elem (List.getElem?_eq_getElem hkx)
      simp only [Option.some.injEq, Addr.mk.injEq] at he
      obtain ⟨rfl, rfl, _⟩ := he
      have y0 := hcell 0 _ rfl
      simp only [rInt, Nat.add_zero, Nat.mul_one] at y0
      have hnl : ¬ l[k] < N := fun h => hC ⟨hkx, h⟩
      have hne : ¬ l[k] = N := fun h => hE ⟨hkx, h⟩
      have hneb : (l[k] == N) = false := by simpa using hne
      clear hcell hC hE
      generalize l[k] = y at *
      go_wp2_with (at_builtin; refine wpList_extend (by rfl) _ _ _ (by rfl) elt_ints Tryz.underlying113 (by rfl) (Own.nil_ rInt w w.heap.size 3 (S := fun _ => False) (fun b h => h.elim)) (fun b => b < w.heap.size) (l.take k) _ _ _ (by rfl) HT1.out (by intro b hb he; simp [Value.ownBlock] at he) (by rw [Hlen.out]; simp [maxLen]; omega) (by rw [Hlen.out]; simp; omega) (by simp) ?_)
    rotate_left
    focus
      have hkI : ¬ (k : Int) < (n : Int) := by have := Hnx.out; omega
      clear hC hE
      go_wp2_with (at_builtin; refine wpList_extend (by rfl) _ _ _ (by rfl) elt_ints Tryz.underlying113 (by rfl) (Own.nil_ rInt w w.heap.size 3 (S := fun _ => False) (fun b h => h.elim)) (fun b => b < w.heap.size) (l.take k) _ _ _ (by rfl) HT1.out (by intro b hb he; simp [Value.ownBlock] at he) (by rw [Hlen.out]; simp [maxLen]; omega) (by rw [Hlen.out]; simp; omega) (by simp) ?_)
    all_goals
      intro v5 w5 hown5 hgrow5 hat5
      have HB5 : Hid (Below w.heap.size w w5) := (Below.refl _ _).grown hgrow5 (Nat.le_refl _) (fun k hk => by simp [Value.ownBlock] at hk)
      have Hown5 := Lib.hid hown5
      have hw5 := HB5.out.size
      clear hown5 hgrow5 hat5
      go_wp2_with (at_builtin; refine wpList_push (by rfl) _ _ _ (by rfl) elt_ints Tryz.underlying113 (by rfl) (Hown5.out.alloc _) ⟨w5.heap.size, 0, none⟩ 1 [.int .i64 N] N (by rfl) ⟨rfl, hN⟩ (news_of w5 #[.int .i64 N] _) (by rw [Hlen.out]; unfold maxLen; omega) (by rw [Hlen.out]; omega) (by simp; omega) (w5.heap.size + 1) (by simp) ?_)
      intro g9 cap9 w9 hown9 hgrow9 hat9 hlt9
      have HB9 := Lib.hid (bgrown (bal HB5.out _) hgrow9 (Hown5.out.alloc _) (Nat.le_refl _))
      have Hown9 := Lib.hid hown9
      clear hown9 hgrow9
      have hown9l : Hid ((l.take k ++ [N]).length = k + 1) := by unfold Hid; rw [List.length_append, Hlen.out]; rfl
      have HV9 : Hid (SlV rInt w9 (fun b => b < w.heap.size) l (.slice (some ⟨b, o, none⟩) n c)) := HX.out.belowSize HB9.out
      have hw9 := HB9.out.size
      have hlb9 := Lib.hid Hown9.out.lt
      clear Hown5 HB5 HT1 hw5
      have HTd := Lib.hid (slvI_drop HV9.out hk)
      refine dite (c = k) (fun hcp => ?_) (fun hcp => ?_)
      · have hnk : n = k := by omega
        have HD0 : Hid (l.drop k = []) := by unfold Hid; exact List.eq_nil_of_length_eq_zero (by rw [Hdl.out]; omega)
        have Hs9 := Lib.hid Hown9.out.slv
        have HE9 : Hid (addF l N = l.take k ++ [N]) := by unfold Hid; rw [Hout.out, HD0.out]
        have hcap9 : k + 1 ≤ cap9 := by
          obtain ⟨_, _, hv, h1, _⟩ := Hown9.out.slv
          simp only [List.cons.injEq, Value.slice.injEq, and_true] at hv
          rw [hown9l.out] at h1
          have := hv.2.2
          omega
        rw [← HE9.out] at Hs9
        have Hmin : Hid (min k l.length = k) := by unfold Hid; have := Hnx.out; omega
        simp only [Hlen.out, Hmin.out] at Hs9 hcap9 ⊢
        subst hcp
        subst hnk
        clear HTd
        go_wp2_with fail
        go_ret
        exact ⟨_, rfl, Hs9.out.more fun _ _ _ => trivial, HB9.out⟩
      · have hcp' : ¬ k = c := fun e => hcp e.symm
        go_wp2_with (at_builtin; refine wpList_extend (by rfl) _ _ _ (by rfl) elt_ints Tryz.underlying113 (by rfl) Hown9.out (fun b => b < w.heap.size) (l.drop k) _ _ _ (by rfl) HTd.out (by intro b hb he; have := (hlb9.out b he).1; omega) (by rw [hown9l.out, Hdl.out]; unfold maxLen; omega) (by rw [hown9l.out, Hdl.out]; omega) hw9 ?_)
        intro v6 w6 hown6 hgrow6 hat6
        have HB6 := Lib.hid (bgrown HB9.out hgrow6 Hown9.out (Nat.le_refl _))
        have Hs6 := Lib.hid hown6.slv
        rw [← Hout.out] at Hs6
        clear hown6 hgrow6 hat6
        go_wp2_with fail
        go_ret
        exact ⟨_, rfl, Hs6.out.more fun _ _ _ => trivial, HB6.out⟩
end Go.Proofs.YtldjldkejjeamaaGreatDoor
set_option autoImplicit false
set_option relaxedAutoImplicit false
set_option linter.unusedVariables false
set_option linter.unusedSimpArgs false
namespace Go.Proofs.YtldjldkejjeamaaGreatDoor
open Go.Rows Go.RowKit Go.Shelf Go.Sort

theorem slvI_some {w : World} {S : Nat → Prop} {l : List Int} {v : Value} (h : SlV rInt w S l v) (h0 : 0 < l.length) : ∃ b o c, v = .slice (some ⟨b, o, none⟩) l.length c := by
  obtain ⟨A, c, rfl, _, _⟩ := h.val
  obtain ⟨b, o, _, he, _⟩ := h.elem (List.getElem?_eq_getElem h0)
  exact ⟨b, o, c, by rw [he]⟩
theorem addF_len (l : List Int) (n : Int) : l.length ≤ (addF l n).length ∧ (addF l n).length ≤ l.length + 1 := by
  unfold addF
  split
  · omega
  · have := congrArg List.length (List.takeWhile_append_dropWhile (p := fun m => decide (m < n)) (l := l))
    rw [List.length_append] at this
    rw [List.length_append, List.length_cons]
    omega
theorem endsF_len : ∀ (a : List Rk) (l : List Int), l.length ≤ (endsF l a).length ∧ (endsF l a).length ≤ l.length + 2 * a.length := by
  intro a
  induction a with
  | nil => intro l; exact ⟨Nat.le_refl _, Nat.le_refl _⟩
  | cons x a ih =>
    intro l
    have e : endsF l (x :: a) = endsF (addF (addF l x.1) (x.2 + 1)) a := rfl
    rw [e, List.length_cons]
    have h1 := ih (addF (addF l x.1) (x.2 + 1))
    have h2 := addF_len l x.1
    have h3 := addF_len (addF l x.1) (x.2 + 1)
    omega
theorem endsF_take {a : List Rk} {k : Nat} (h : k < a.length) (l : List Int) : endsF l (a.take (k + 1)) = addF (addF (endsF l (a.take k)) a[k].1) (a[k].2 + 1) := by
  rw [List.take_succ_eq_append_getElem h]
  unfold endsF
  rw [List.foldl_append]
  rfl

set_option maxHeartbeats 4000000 in
set_option maxRecDepth 100000 in
theorem ends_any (b o n c : Nat) (A : Option Addr) (m d : Nat) (l : List Int) (a : List Spn) (w : World) (S T : Nat → Prop) (hs : l.Pairwise (· < ·)) (h0 : 0 < l.length) (hmax : l.length + 2 * a.length ≤ 1000000)
    (hl : SlV rInt w S l (.slice (some ⟨b, o, none⟩) n c)) (ha : SlV rSpn w T a (.slice A m d)) :
    Calls Tryz.prog 93 #[.slice (some ⟨b, o, none⟩) n c, .slice A m d] w fun e w' => ∃ v, e = .returned v ∧ SlV rInt w' (fun _ => True) (endsF l (rks a)) v ∧ Below w.heap.size w w' := by
  have hny := ha.n_eq
  have hn63 : m ≤ 1000000 := by omega
  have HX := Lib.hid (hl.more (S' := fun _ => True) fun b _ _ => trivial)
  have HY := Lib.hid (ha.more (S' := fun b => b < w.heap.size) fun b _ hlt => hlt)
  have Hs := Lib.hid hs
  have Hmax := Lib.hid hmax
  have Hny := Lib.hid hny
  have H0 := Lib.hid h0
  clear hl ha hs hmax hny h0
  go_enter Tryz.func93, Tryz.ntmps93
  go_wp2_with fail
  go_loopw [0, 5] (fun v i wr => ∃ (k : Nat), k ≤ m ∧ i = .int .i64 k ∧ Hid (SlV rInt wr (fun _ => True) (endsF l ((rks a).take k)) v) ∧ Hid (Below w.heap.size w wr)) (fun _ i _ => m - (intOf i).toNat)
  case atStart => exact ⟨0, Nat.zero_le _, rfl, HX, Below.refl _ _⟩
  case round =>
    obtain ⟨k, hk, rfl, HV, HB⟩ := hrel
    by_cases hlt : k < m
    case neg =>
      have hlt' : ¬ (k : Int) < (m : Int) := by omega
      have HV2 := Lib.hid HV.out
      rw [List.take_of_length_le (by rw [rks_len]; have := Hny.out; omega)] at HV2
      go_wp2_with fail
      go_ret
      exact ⟨_, rfl, HV2.out, HB.out⟩
    have hkx : k < a.length := by have := Hny.out; omega
    have hkI : (k : Int) < (m : Int) := by omega
    have hk0 : (0 : Int) ≤ (k : Int) := by omega
    obtain ⟨b1, o1, cs1, rfl, hSb, _, ⟨rfl, _, _, _, _, _, _⟩, hcell⟩ := HY.out.elem (List.getElem?_eq_getElem hkx)
    have k0 := hcell 0 _ rfl
    have k1 := hcell 1 _ rfl
    have k2 := hcell 2 _ rfl
    have k3 := hcell 3 _ rfl
    have k4 := hcell 4 _ rfl
    have k5 := hcell 5 _ rfl
    simp only [rSpn, Nat.add_zero, Nat.mul_one] at k0 k1 k2 k3 k4 k5
    have Hst := Lib.hid (endsF_take (a := rks a) (l := l) (by rw [rks_len]; exact hkx))
    rw [rks_at hkx] at Hst
    have hsrt := endsF_sorted (a := (rks a).take k) Hs.out
    obtain ⟨hg1, hg2⟩ := endsF_len ((rks a).take k) l
    rw [List.length_take, rks_len] at hg2
    have c0 := below_cell HB.out k0 hSb
    have c1 := below_cell HB.out k1 hSb
    have c2 := below_cell HB.out k2 hSb
    have HK3 := Lib.hid k3
    have HK4 := Lib.hid k4
    have HK5 := Lib.hid k5
    clear k0 k1 k2 k3 k4 k5 hcell
    generalize a[k] = s at *
    obtain ⟨⟨x1, x2, x3⟩, ⟨x4, x5, x6⟩⟩ := s
    simp only [Ver.rank] at c0 c1 c2 HK3 HK4 HK5 Hst
    generalize endsF l ((rks a).take k) = L at *
    have Hsrt := Lib.hid hsrt
    have hL0 : 0 < L.length := by have := H0.out; omega
    have hLm : L.length + 2 ≤ 1000000 := by have := Hmax.out; omega
    obtain ⟨vb, vo, vc, rfl⟩ := slvI_some HV.out hL0
    obtain ⟨p1, p2⟩ := rankR_bounds x1 x2 x3
    obtain ⟨q1, q2⟩ := rankR_bounds x4 x5 x6
    have H1 := Lib.hid (fun W => refRank_any x1 x2 x3 W)
    have H2 := Lib.hid (fun W => refRank_any x4 x5 x6 W)
    generalize rankR x1 x2 x3 = r1 at *
    generalize rankR x4 x5 x6 = r2 at *
    have hw2 : IntKind.i64.wrap (r2 + 1) = r2 + 1 := IntWalk.i64_in _ ⟨by omega, by omega⟩
    have ha1 := addF_len L r1
    have HI1 : Hid (I64 r1) := by unfold Hid I64; omega
    have HI2 : Hid (I64 (r2 + 1)) := by unfold Hid I64; omega
    have Hg := Lib.hid (show 0 < L.length ∧ L.length + 2 ≤ 1000000 ∧ L.length ≤ (addF L r1).length ∧ (addF L r1).length ≤ L.length + 1 from ⟨hL0, hLm, ha1.1, ha1.2⟩)
    clear hL0 hLm ha1 hsrt hg1 hg2
    obtain ⟨ln, hln⟩ : ∃ ln, ln = L.length := ⟨_, rfl⟩
    rw [← hln] at HV
    rw [← hln]
    clear hln
    go_wp2_with fail
    refine (H1.out _).mono ?_
    rintro e w1 ⟨rfl, hb1⟩
    have HB1 := Lib.hid (bot HB.out hb1)
    have HV1 := Lib.hid (HV.out.belowSize hb1)
    clear hb1 c0 c1 c2 H1 HV
    go_wp2_with fail
    refine (added_any vb vo ln vc L r1 w1 _ Hsrt.out HI1.out (by have := Hg.out; omega) Hg.out.1 HV1.out).mono ?_
    rintro e w2 ⟨v2, rfl, hv2, hb2⟩
    obtain ⟨ub, uo, uc, rfl⟩ := slvI_some hv2 (by have := Hg.out; omega)
    have HB2 := Lib.hid (bot HB1.out hb2)
    have HV2 := Lib.hid hv2
    have c3 := below_cell HB2.out HK3.out hSb
    have c4 := below_cell HB2.out HK4.out hSb
    have c5 := below_cell HB2.out HK5.out hSb
    have Hsrt2 := Lib.hid (addF_sorted Hsrt.out r1)
    clear hb2 hv2 HV1
    generalize addF L r1 = L2 at *
    obtain ⟨ln2, hln2⟩ : ∃ ln2, ln2 = L2.length := ⟨_, rfl⟩
    rw [← hln2] at HV2
    rw [← hln2]
    clear hln2
    go_wp2_with fail
    refine (H2.out _).mono ?_
    rintro e w3 ⟨rfl, hb3⟩
    have HB3 := Lib.hid (bot HB2.out hb3)
    have HV3 := Lib.hid (HV2.out.belowSize hb3)
    clear hb3 c3 c4 c5 H2 HV2
    go_wp2_with fail
    refine (added_any ub uo ln2 uc L2 (r2 + 1) w3 _ Hsrt2.out HI2.out (by have := Hg.out; omega) (by have := Hg.out; omega) HV3.out).mono ?_
    rintro e w4 ⟨v4, rfl, hv4, hb4⟩
    have HB4 := Lib.hid (bot HB3.out hb4)
    have HV4 := Lib.hid hv4
    rw [← Hst.out] at HV4
    clear hb4 hv4 HV3
    go_wp2_with fail
    go_roundw
    case rel => exact ⟨k + 1, by omega, by go_num, HV4, HB4⟩
    case measure => simp [intOf]; omega

theorem heap_set1 {W : World} {b o : Nat} {cs : Array Value} {t : TypeId} {fr : Nat × Nat} (h : W.heap[b]? = some (.cells cs t fr)) (v : Value) : (W.setCell ⟨b, o, none⟩ v).heap[b]? = some (.cells (cs.setIfInBounds o v) t fr) := by
  obtain ⟨hlt, hk⟩ := Array.getElem?_eq_some_iff.1 h
  show (W.heap.modify b _)[b]? = _
  rw [Array.getElem?_eq_getElem (by rw [Array.size_modify]; exact hlt), Array.getElem_modify_self, hk]
  rfl
theorem heap_set3 {W : World} {b : Nat} {x y z : Value} {t : TypeId} (h : W.heap[b]? = some (.cells #[x, y, z] t (0, 0))) (a1 a2 a3 : Value) :
    (((W.setCell ⟨b, 0, none⟩ a1).setCell ⟨b, 1, none⟩ a2).setCell ⟨b, 2, none⟩ a3).heap[b]? = some (.cells #[a1, a2, a3] t (0, 0)) := heap_set1 (heap_set1 (heap_set1 h a1) a2) a3
theorem lt_set3 {W : World} {b n : Nat} (h : n < W.heap.size) (a1 a2 a3 : Value) : n < (((W.setCell ⟨b, 0, none⟩ a1).setCell ⟨b, 1, none⟩ a2).setCell ⟨b, 2, none⟩ a3).heap.size := by
  simpa [World.setCell] using h

set_option maxRecDepth 100000 in
theorem refAt02_any (n : Int) (h0 : 0 ≤ n) (h1 : n ≤ 999999999) (w : World) :
    Calls Tryz.prog 122 #[.int .i64 n] w fun e w' => e = .returned (.tuple #[.agg #[.int .i64 (n / 1000000), .int .i64 (n / 1000 % 1000), .int .i64 (n % 1000)], .bool true]) ∧ Below w.heap.size w w' := by
  have h2 : ¬ n < 0 := by omega
  have h3 : ¬ 999999999 < n := by omega
  have q0 : 0 ≤ n / 1000 := by omega
  go_enter Tryz.func122, Tryz.ntmps122
  go_wp2_with fail
  refine bodyPost_ret (v := .tuple #[.agg #[.int .i64 (n / 1000000), .int .i64 (n / 1000 % 1000), .int .i64 (n % 1000)], .bool true]) (by simp [results, Tryz.results122, go_sem]) rfl ⟨rfl, ?_⟩
  exact bal (Below.refl _ _) _

set_option maxRecDepth 100000 in
theorem refAt03_any (n : Int) (h0 : 0 ≤ n) (h1 : n ≤ 999999999) (w : World) :
    Calls Tryz.prog 90 #[.int .i64 n] w fun e w' => e = .returned (.agg #[.int .i64 (n / 1000 / 1000), .int .i64 (n / 1000 % 1000), .int .i64 (n % 1000)]) ∧ Below w.heap.size w w' := by
  have H1 := Lib.hid (fun W => refAt02_any n h0 h1 W)
  have he : n / 1000000 = n / 1000 / 1000 := by omega
  rw [he] at H1
  clear h0 h1 he
  generalize n / 1000 / 1000 = a1 at *
  generalize n / 1000 % 1000 = a2 at *
  generalize n % 1000 = a3 at *
  go_enter Tryz.func90, Tryz.ntmps90
  go_wp2_with fail
  refine (H1.out _).mono ?_
  rintro e w1 ⟨rfl, hb1⟩
  have c0 := hb1.cell (p := ⟨w.heap.size, 0, none⟩) (by simp)
  have c1 := hb1.cell (p := ⟨w.heap.size, 1, none⟩) (by simp)
  have c2 := hb1.cell (p := ⟨w.heap.size, 2, none⟩) (by simp)
  have f0 := hb1.frozen (p := ⟨w.heap.size, 0, none⟩) (by simp)
  have f1 := hb1.frozen (p := ⟨w.heap.size, 1, none⟩) (by simp)
  have f2 := hb1.frozen (p := ⟨w.heap.size, 2, none⟩) (by simp)
  simp [go_sem] at c0 c1 c2 f0 f1 f2
  have hz1 : w.heap.size < w1.heap.size := by have := hb1.size; simp at this; omega
  have hne : w.heap.size ≠ w1.heap.size := by omega
  have HB1 := Lib.hid (bnew hb1)
  have hrow : w1.heap[w.heap.size]? = some (.cells #[.int .i64 0, .int .i64 0, .int .i64 0] 23 (0, 0)) := (hb1.block w.heap.size (by simp)).trans (heap_alloc_new w _)
  clear hb1
  go_wp2_with fail
  refine bodyPost_ret (results_cell_row (P := Tryz.prog) rfl _ _ w.heap.size _ _ _ _ rfl (by
    rw [Lib.alloc_old _ _ _ (lt_set3 hz1 _ _ _)]
    exact heap_set3 hrow _ _ _) Tryz.underlying23 rfl (by kernel_rfl)) rfl ⟨rfl, ?_⟩
  exact bal (((HB1.out.setCell (Nat.le_refl _) _).setCell (Nat.le_refl _) _).setCell (Nat.le_refl _) _) _

set_option maxRecDepth 100000 in
theorem wanted_any (kind : Nat) (hk : kind = 109 ∨ kind = 106 ∨ kind = 99) (x y : Bool) (w : World) :
    Calls Tryz.prog 94 #[.int .u8 (kind : Int), .bool x, .bool y] w fun e w' => e = .returned (.bool (wantB kind x y)) ∧ Below w.heap.size w w' := by
  rcases hk with rfl | rfl | rfl <;> cases x <;> cases y <;>
  · go_enter Tryz.func94, Tryz.ntmps94
    go_wp2_with fail
    go_ret
    exact ⟨rfl, Below.refl _ _⟩
end Go.Proofs.YtldjldkejjeamaaGreatDoor
