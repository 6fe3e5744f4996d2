/-
  Sets of versions folded by runs of ranks: spans, fit, met, others, walked.
-/
import Derived.Test.YtghihopmiagcpaaGreatDoorSpanM
import Derived.Test.YtghihopmiagcpaaGreatDoorSpnP
import Derived.Deep.LoopGhost
import Derived.WalkMore
import Derived.Deep.RegionHeld3
set_option autoImplicit false
set_option relaxedAutoImplicit false
set_option linter.unusedVariables false
set_option linter.unusedSimpArgs false
namespace Go.Proofs.YtghihopmiagcpaaGreatDoor
open Go.Rows Go.RowKit Go.Shelf Go.Sort

def verAt (n : Int) : Ver := ⟨n / 1000 / 1000, n / 1000 % 1000, n % 1000⟩
def spnAt (x : Rk) : Spn := ⟨verAt x.1, verAt x.2⟩
theorem verAt_ok {n : Int} (h0 : 0 ≤ n) (h1 : n ≤ 999999999) : (verAt n).ok = true ∧ (verAt n).rank = n := by
  have hv : verB (n / 1000 / 1000) (n / 1000 % 1000) (n % 1000) = true := verB_iff.2 ⟨by omega, by omega, by omega⟩
  refine ⟨hv, ?_⟩
  unfold verAt Ver.rank rankR
  simp only
  rw [if_pos hv]
  unfold rankI
  omega
theorem verAt_i64 {n : Int} (h0 : 0 ≤ n) (h1 : n ≤ 999999999) : I64 (n / 1000 / 1000) ∧ I64 (n / 1000 % 1000) ∧ I64 (n % 1000) := by
  unfold I64; omega
theorem elt_spn : Elt Tryz.prog 47 6 48 := Elt.mk' (z := .agg #[.int .i64 0, .int .i64 0, .int .i64 0, .int .i64 0, .int .i64 0, .int .i64 0]) (by kernel_rfl) rfl (by decide)

set_option maxHeartbeats 2000000 in
set_option maxRecDepth 100000 in
theorem spansO_any (A : Option Addr) (n c : Nat) (l : List Rk) (w : World) (S : Nat → Prop) (hmax : l.length ≤ 1000000) (hr : ∀ x ∈ l, 0 ≤ x.1 ∧ x.1 ≤ 999999999 ∧ 0 ≤ x.2 ∧ x.2 ≤ 999999999) (hl : SlV rRnk w S l (.slice A n c)) :
    Calls Tryz.prog 58 #[.slice A n c] w fun e w' => ∃ v, e = .returned v ∧ Own rSpn w' w.heap.size 47 v (l.map spnAt) (fun _ => False) ∧ Below w.heap.size w w' := by
  have hnx := hl.n_eq
  have hl' := hl.more (S' := fun b => b < w.heap.size) fun b _ hlt => hlt
  have hn63 : n ≤ 1000000 := by omega
  have Hr := Lib.hid hr
  have Hnx := Lib.hid hnx; clear hnx
  clear hl hr
  go_enter Tryz.func58, Tryz.ntmps58
  go_wp2_with fail
  go_loopw [3, 12] (fun v i wr => ∃ (k : Nat), k ≤ n ∧ i = .int .i64 k ∧ Hid (Own rSpn wr w.heap.size 47 v ((l.take k).map spnAt) (fun _ => False)) ∧ Below w.heap.size w wr) (fun _ i _ => n - (intOf i).toNat)
  case atStart => exact ⟨0, Nat.zero_le _, rfl, Own.nil_ _ _ _ _ (fun b hb => hb.elim), Below.refl _ _⟩
  case round =>
    obtain ⟨k, hk, rfl, Hown, hbel⟩ := hrel
    by_cases hlt : k < n
    · have hkx : k < l.length := by have := Hnx.out; omega
      have hlw := hl'.below hbel (fun b hb => hb)
      have hbw := hbel.size
      obtain ⟨b, o, cs, rfl, hSb, hbl, hsp, hcell⟩ := hlw.elem (List.getElem?_eq_getElem hkx)
      obtain ⟨rfl, _, _⟩ := hsp
      have c0 := hcell 0 _ rfl
      have c1 := hcell 1 _ rfl
      simp only [rRnk, Nat.add_zero, Nat.mul_one] at c0 c1
      clear hcell
      have Htk : Hid ((l.take (k + 1)).map spnAt = (l.take k).map spnAt ++ [spnAt l[k]]) := by
        unfold Hid; rw [List.take_succ_eq_append_getElem hkx, List.map_append]; rfl
      have hlen : ((l.take k).map spnAt).length = k := by simp; omega
      obtain ⟨h1, h2, h3, h4⟩ := Hr.out l[k] (List.getElem_mem hkx)
      clear hlw
      have hkn : (k : Int) < (n : Int) := by omega
      generalize l[k] = s at *
      obtain ⟨x1, x2⟩ := s
      simp only at c0 c1 h1 h2 h3 h4
      have H1 := Lib.hid (fun W => versAt_any x1 h1 h2 W)
      have H2 := Lib.hid (fun W => versAt_any x2 h3 h4 W)
      have Hi1 := Lib.hid (verAt_i64 h1 h2)
      have Hi2 := Lib.hid (verAt_i64 h3 h4)
      have Htk' : Hid ((l.take (k + 1)).map spnAt = (l.take k).map spnAt ++ [⟨⟨x1 / 1000 / 1000, x1 / 1000 % 1000, x1 % 1000⟩, ⟨x2 / 1000 / 1000, x2 / 1000 % 1000, x2 % 1000⟩⟩]) := Htk.out
      clear Htk h1 h2 h3 h4
      generalize (l.take k).map spnAt = done at *
      generalize x1 / 1000 / 1000 = a1 at *
      generalize x1 / 1000 % 1000 = a2 at *
      generalize x1 % 1000 = a3 at *
      generalize x2 / 1000 / 1000 = b1 at *
      generalize x2 / 1000 % 1000 = b2 at *
      generalize x2 % 1000 = b3 at *
      have Hlen := Lib.hid hlen; clear hlen
      go_wp2_with fail
      refine (H1.out _).mono ?_
      rintro e w1 ⟨rfl, hb1⟩
      have e1 := hb1.cell (p := ⟨wr.heap.size, 1, none⟩) (by simp)
      simp [go_sem] at e1
      have Hb1 := Lib.hid (bnew hb1)
      have hz1 : wr.heap.size < w1.heap.size := by have := hb1.size; simp at this; omega
      clear hb1
      go_wp2_with fail
      refine (H2.out _).mono ?_
      rintro e w2 ⟨rfl, hb2⟩
      have d0 := hb2.cell (p := ⟨w1.heap.size, 0, none⟩) (by simp)
      have d1 := hb2.cell (p := ⟨w1.heap.size, 1, none⟩) (by simp)
      have d2 := hb2.cell (p := ⟨w1.heap.size, 2, none⟩) (by simp)
      simp [go_sem] at d0 d1 d2
      have Hb2 := Lib.hid (bot Hb1.out (bnew hb2))
      have hz2 : w1.heap.size < w2.heap.size := by have := hb2.size; simp at this; omega
      clear hb2 e1 c0 c1
      have HB := Lib.hid (bot hbel Hb2.out)
      have Hown2 := Lib.hid (Hown.out.keep Hb2.out)
      have hw2 := HB.out.size
      have hne : w1.heap.size ≠ w2.heap.size := by omega
      go_wp2_with (at_builtin; refine wpList_push (by rfl) _ _ _ (by rfl) elt_spn Tryz.underlying22 (by rfl) ((Hown2.out.alloc _).alloc _) ⟨w2.heap.size + 1, 0, none⟩ 1 [.int .i64 a1, .int .i64 a2, .int .i64 a3, .int .i64 b1, .int .i64 b2, .int .i64 b3] ⟨⟨a1, a2, a3⟩, ⟨b1, b2, b3⟩⟩ (by simp [go_sem]) ⟨rfl, Hi1.out.1, Hi1.out.2.1, Hi1.out.2.2, Hi2.out.1, Hi2.out.2.1, Hi2.out.2.2⟩ (by intro j u hu; have := news_of (w2.alloc (.cells #[.int .i64 b1, .int .i64 b2, .int .i64 b3] 24)) #[.int .i64 a1, .int .i64 a2, .int .i64 a3, .int .i64 b1, .int .i64 b2, .int .i64 b3] 47 j u hu; simpa using this) (by rw [Hlen.out]; unfold maxLen; omega) (by rw [Hlen.out]; omega) (by simp; omega) (w2.heap.size + 2) (by simp) ?_)
      intro g cap w3 hown3 hgrow hat hg3
      have HB3 := Lib.hid (bgrown (bal (bal HB.out _) _) hgrow ((Hown2.out.alloc _).alloc _) (Nat.le_refl _))
      have Hown3 := Lib.hid hown3
      clear hown3 hgrow
      go_wp2_with fail
      go_roundw
      case rel => exact ⟨k + 1, by omega, by go_num, by unfold Hid; rw [Htk'.out]; exact Hown3.out, HB3.out⟩
      case measure => simp [intOf]; omega
    · have hkn : k = l.length := by have := Hnx.out; omega
      have hs := Hown.out
      rw [hkn, List.take_length] at hs
      clear hkn
      go_wp2_with fail
      go_ret
      exact ⟨_, rfl, hs, hbel⟩
theorem spans_any (A : Option Addr) (n c : Nat) (l : List Rk) (w : World) (S : Nat → Prop) (hmax : l.length ≤ 1000000) (hr : ∀ x ∈ l, 0 ≤ x.1 ∧ x.1 ≤ 999999999 ∧ 0 ≤ x.2 ∧ x.2 ≤ 999999999) (hl : SlV rRnk w S l (.slice A n c)) :
    Calls Tryz.prog 58 #[.slice A n c] w fun e w' => ∃ v, e = .returned v ∧ SlV rSpn w' (fun b => w.heap.size ≤ b) (l.map spnAt) v ∧ Below w.heap.size w w' :=
  (spansO_any A n c l w S hmax hr hl).mono fun e w' ⟨v, he, ho, hb⟩ => ⟨v, he, ho.slvB, hb⟩

/-- what is handed back: a range that has not too many spans -/
def fitR (l : List Rk) : List Spn × Int := if l.length ≤ 64 then (l.map spnAt, 0) else ([], 26)
set_option maxRecDepth 100000 in
theorem fitO_any (A : Option Addr) (n c : Nat) (l : List Rk) (w : World) (S : Nat → Prop) (hr : ∀ x ∈ l, 0 ≤ x.1 ∧ x.1 ≤ 999999999 ∧ 0 ≤ x.2 ∧ x.2 ≤ 999999999) (hl : SlV rRnk w S l (.slice A n c)) :
    Calls Tryz.prog 43 #[.slice A n c] w fun e w' => ∃ v, e = .returned (.tuple #[v, .int .i64 (fitR l).2]) ∧ Own rSpn w' w.heap.size 47 v (fitR l).1 (fun _ => False) ∧ Below w.heap.size w w' := by
  have hnx := hl.n_eq
  have hcx := hl.cap_le
  unfold maxLen at hcx
  by_cases h : n ≤ 64
  · have hf : fitR l = (l.map spnAt, 0) := by unfold fitR; rw [if_pos (by omega)]
    rw [hf]
    have H1 := Lib.hid (spansO_any A n c l w S (by omega) hr hl)
    have hn : ¬ (64 : Int) < (n : Int) := by omega
    clear hr hl hf hnx hcx
    go_enter Tryz.func43, Tryz.ntmps43
    go_wp2_with fail
    refine H1.out.mono ?_
    rintro e w1 ⟨v, rfl, hv, hb⟩
    have Hv := Lib.hid hv
    clear hv
    go_wp2_with fail
    go_ret2
    exact ⟨v, rfl, Hv.out, hb⟩
  · have hf : fitR l = ([], 26) := by unfold fitR; rw [if_neg (by omega)]
    rw [hf]
    have hn : (64 : Int) < (n : Int) := by omega
    clear hr hl hf hnx
    go_enter Tryz.func43, Tryz.ntmps43
    go_wp2_with fail
    go_ret2
    exact ⟨_, rfl, Own.nil_ _ _ _ _ (fun b hb => hb.elim), Below.refl _ _⟩
theorem fit_any (A : Option Addr) (n c : Nat) (l : List Rk) (w : World) (S : Nat → Prop) (hr : ∀ x ∈ l, 0 ≤ x.1 ∧ x.1 ≤ 999999999 ∧ 0 ≤ x.2 ∧ x.2 ≤ 999999999) (hl : SlV rRnk w S l (.slice A n c)) :
    Calls Tryz.prog 43 #[.slice A n c] w fun e w' => ∃ v, e = .returned (.tuple #[v, .int .i64 (fitR l).2]) ∧ SlV rSpn w' (fun b => w.heap.size ≤ b) (fitR l).1 v ∧ Below w.heap.size w w' :=
  (fitO_any A n c l w S hr hl).mono fun e w' ⟨v, he, ho, hb⟩ => ⟨v, he, ho.slvB, hb⟩

def Small (l : List Rk) : Prop := ∀ x ∈ l, x.1.natAbs ≤ 4000000000 ∧ x.2.natAbs ≤ 4000000000
theorem Small.i64 {l : List Rk} (h : Small l) {x : Rk} (hx : x ∈ l) : I64 x.1 ∧ I64 x.2 := by have := h x hx; unfold I64; omega
theorem metF_step {a b : List Rk} {i k : Nat} (hi : i < a.length) (hk : k < b.length) :
    metF (a.drop i) (b.drop k) = (if max a[i].1 b[k].1 ≤ min a[i].2 b[k].2 then [(max a[i].1 b[k].1, min a[i].2 b[k].2)] else []) ++ (if a[i].2 < b[k].2 then metF (a.drop (i + 1)) (b.drop k) else metF (a.drop i) (b.drop (k + 1))) := by
  have e1 := List.drop_eq_getElem_cons hi
  have e2 := List.drop_eq_getElem_cons hk
  rw [e1, e2, metF, ← e1, ← e2]
theorem mx_max (a b : Int) : (if b > a then b else a) = max a b := by split <;> omega
theorem mn_min (a b : Int) : (if b < a then b else a) = min a b := by split <;> omega

set_option maxHeartbeats 4000000 in
set_option maxRecDepth 100000 in
theorem met_any (A B : Option Addr) (n m c d : Nat) (a b : List Rk) (w : World) (S T : Nat → Prop) (han : a.length ≤ 1000000) (hbn : b.length ≤ 1000000) (hx : SlV rRnk w S a (.slice A n c)) (hy : SlV rRnk w T b (.slice B m d)) :
    Calls Tryz.prog 55 #[.slice A n c, .slice B m d] w fun e w' => ∃ v, e = .returned v ∧ SlV rRnk w' (fun b => w.heap.size ≤ b) (metF a b) v ∧ Below w.heap.size w w' := by
  have hnx := hx.n_eq
  have hny := hy.n_eq
  have HX := Lib.hid (hx.more (S' := fun b => b < w.heap.size) fun b _ h => h)
  have HY := Lib.hid (hy.more (S' := fun b => b < w.heap.size) fun b _ h => h)
  have hn63 : n ≤ 1000000 := by omega
  have hm63 : m ≤ 1000000 := by omega
  have Hnx := Lib.hid hnx; clear hnx
  have Hny := Lib.hid hny; clear hny
  clear hx hy han hbn
  go_enter Tryz.func55, Tryz.ntmps55
  go_wp2
  go_step3
  go_wp2
  go_step3
  go_wp2
  go_loopg [5, 6, 7] n (fun G v i j wr => ∃ (p q : Nat) (done : List Rk), p + G = n ∧ q ≤ m ∧ done.length ≤ p + q ∧ i = .int .i64 p ∧ j = .int .i64 q ∧ Hid (metF a b = done ++ metF (a.drop p) (b.drop q)) ∧ Hid (Own rRnk wr w.heap.size 59 v done (fun _ => False)) ∧ Hid (Below w.heap.size w wr))
  case atStart => exact ⟨0, 0, [], by omega, Nat.zero_le _, Nat.zero_le _, rfl, rfl, rfl, Own.nil_ _ _ _ _ (fun b hb => hb.elim), Below.refl _ _⟩
  case round =>
    obtain ⟨p, q, done, hp, hq, hdl, rfl, rfl, Hm, Hown, HB⟩ := hrel
    generalize gk = G at *
    by_cases hpn : p < n
    case neg =>
      have hpn' : ¬ (p : Int) < (n : Int) := by omega
      have hs := Hown.out.slv
      have he : metF a b = done := by rw [Hm.out, List.drop_eq_nil_of_le (by have := Hnx.out; omega), metF, List.append_nil]
      rw [← he] at hs
      have Hs := Lib.hid hs
      clear hs he
      go_wp2_with fail
      go_ret
      exact ⟨_, rfl, Hs.out.more (fun b hb _ => by rcases hb with h | h; exact h.elim; exact h), HB.out⟩
    have hpI : (p : Int) < (n : Int) := by omega
    go_wp2_with fail
    go_loopg [5, 6, 7] (m - q) (fun H v i j wi => ∃ (q : Nat) (done : List Rk), q + H = m ∧ done.length ≤ p + q ∧ i = .int .i64 p ∧ j = .int .i64 q ∧ Hid (metF a b = done ++ metF (a.drop p) (b.drop q)) ∧ Hid (Own rRnk wi w.heap.size 59 v done (fun _ => False)) ∧ Hid (Below w.heap.size w wi))
    case atStart => exact ⟨q, done, by omega, hdl, rfl, rfl, Hm, Hown, HB⟩
    case round =>
      clear Hm Hown HB
      obtain ⟨q2, done2, hq2, hdl2, rfl, rfl, Hm2, Hown2, HB2⟩ := hrel
      generalize gk = H at *
      by_cases hqm : q2 < m
      case neg =>
        have hqm' : ¬ (q2 : Int) < (m : Int) := by omega
        have hs := Hown2.out.slv
        have he : metF a b = done2 := by rw [Hm2.out, show b.drop q2 = [] from List.drop_eq_nil_of_le (by have := Hny.out; omega), metF_nil, List.append_nil]
        rw [← he] at hs
        have Hs := Lib.hid hs
        clear hs he
        go_wp2_with fail
        try rw [Exit.noGoto_ret]
        go_ret
        exact ⟨_, rfl, Hs.out.more (fun b hb _ => by rcases hb with h | h; exact h.elim; exact h), HB2.out⟩
      have hqI : (q2 : Int) < (m : Int) := by omega
      have hpx : p < a.length := by have := Hnx.out; omega
      have hqx : q2 < b.length := by have := Hny.out; omega
      have hp0 : (0 : Int) ≤ (p : Int) := by omega
      have hq0 : (0 : Int) ≤ (q2 : Int) := by omega
      obtain ⟨b1, o1, cs1, rfl, hs1, _, ⟨rfl, hi1, hi2⟩, hcell1⟩ := HX.out.elem (List.getElem?_eq_getElem hpx)
      obtain ⟨b2, o2, cs2, rfl, hs2, _, ⟨rfl, hi3, hi4⟩, hcell2⟩ := HY.out.elem (List.getElem?_eq_getElem hqx)
      have k0 := hcell1 0 _ rfl
      have k1 := hcell1 1 _ rfl
      have k2 := hcell2 0 _ rfl
      have k3 := hcell2 1 _ rfl
      simp only [rRnk, Nat.add_zero] at k0 k1 k2 k3
      have hst := metF_step hpx hqx
      clear hcell1 hcell2
      generalize a[p] = x at *
      generalize b[q2] = y at *
      obtain ⟨x1, x2⟩ := x
      obtain ⟨y1, y2⟩ := y
      simp only at k0 k1 k2 k3 hst hi1 hi2 hi3 hi4
      have HK1 : Hid (w.cell? ⟨b1, o1 + p * 2 + 1, none⟩ = some (.int .i64 x2)) := k1
      have HK3 : Hid (w.cell? ⟨b2, o2 + q2 * 2 + 1, none⟩ = some (.int .i64 y2)) := k3
      have c0 := below_cell HB2.out k0 hs1
      have c1 := below_cell HB2.out k1 hs1
      have d0 := below_cell HB2.out k2 hs2
      have d1 := below_cell HB2.out k3 hs2
      clear k0 k1 k2 k3
      have hmx := mx_max x1 y1
      have hmn := mn_min x2 y2
      have hM : Hid (I64 (max x1 y1) ∧ I64 (min x2 y2)) := by unfold Hid I64 at *; omega
      have Hst := Lib.hid hst
      clear hst
      go_wp2_with fail
      go_region_held3 (fun w' => w'.cell? ⟨b1, o1 + p * 2, none⟩ = some (.int .i64 x1) ∧ w'.cell? ⟨b1, o1 + p * 2 + 1, none⟩ = some (.int .i64 x2) ∧ w'.cell? ⟨b2, o2 + q2 * 2, none⟩ = some (.int .i64 y1) ∧ w'.cell? ⟨b2, o2 + q2 * 2 + 1, none⟩ = some (.int .i64 y2))
        (first | exact ⟨c0, c1, d0, d1⟩ | go_keep)
        (fail)
      all_goals
        obtain ⟨w3, hw3⟩ : ∃ w3, w3 = wr.drew := ⟨_, rfl⟩
        rw [← hw3]
        have B3 : Below wr.heap.size wr w3 := by rw [hw3]; exact (Below.refl _ _).drew
        clear hw3
        have HB3 := Lib.hid (HB2.out.trans (B3.mono HB2.out.size))
        have Hown3 := Lib.hid (Hown2.out.keep B3)
        generalize max x1 y1 = M1 at *
        generalize min x2 y2 = M2 at *
        clear c0 c1 d0 d1 B3 hmx hmn Hown2 HB2
        have hw3 := HB3.out.size
        have tail : ∀ (W : World) (v : Value) (dn : List Rk), True := fun _ _ _ => trivial
        clear tail
        by_cases hle : M1 ≤ M2
        · rw [if_pos hle] at Hst
          go_wp2_with (at_builtin; refine wpList_push (by rfl) _ _ _ (by rfl) elt_rnk Tryz.underlying54 (by rfl) (Hown3.out.alloc _) ⟨w3.heap.size, 0, none⟩ 1 [.int .i64 M1, .int .i64 M2] (M1, M2) (by rfl) ⟨rfl, hM.out.1, hM.out.2⟩ (news_of w3 #[.int .i64 M1, .int .i64 M2] _) (by unfold maxLen; omega) (by omega) (by simp; omega) (w3.heap.size + 1) (by simp) ?_)
          intro g cap w4 hown4 hgrow hat hg4
          have HB4 := Lib.hid (bgrown (bal HB3.out _) hgrow (Hown3.out.alloc _) (Nat.le_refl _))
          have Hown4 := Lib.hid hown4
          have g1 := below_cell HB4.out HK1.out hs1
          have g3 := below_cell HB4.out HK3.out hs2
          clear hown4 hgrow hat hg4 Hown3 HB3
          go_wp2_with fail
          have r_g1 := cell_regrown g1
          have r_g3 := cell_regrown g3
          go_wp2_with fail
          refine wp_region_qb (by kernel_rfl) (by kernel_rfl) ?_
          repeat (go_big_quiet_step (first | fail))
          refine wpQuiet_nil ?_
          intro w5 B5
          have HB5 := Lib.hid (HB4.out.trans (B5.mono HB4.out.size))
          have Hown5 := Lib.hid (Hown4.out.keep B5)
          clear g1 g3 r_g1 r_g3 B5 Hown4 HB4
          by_cases hxy : x2 < y2
          · rw [if_pos hxy] at Hst
            have Hm5 : Hid (metF a b = (done2 ++ [(M1, M2)]) ++ metF (a.drop (p + 1)) (b.drop q2)) := by unfold Hid; rw [Hm2.out, Hst.out, List.append_assoc]
            have hl5 : (done2 ++ [(M1, M2)]).length ≤ p + 1 + q2 := by rw [List.length_append, List.length_singleton]; omega
            go_wp2_with fail
            go_roundg (G - 1)
            case rel => exact ⟨p + 1, q2, _, by omega, by omega, hl5, by go_num, rfl, Hm5, Hown5, HB5⟩
            case measure => omega
          · rw [if_neg hxy] at Hst
            have Hm5 : Hid (metF a b = (done2 ++ [(M1, M2)]) ++ metF (a.drop p) (b.drop (q2 + 1))) := by unfold Hid; rw [Hm2.out, Hst.out, List.append_assoc]
            have hl5 : (done2 ++ [(M1, M2)]).length ≤ p + (q2 + 1) := by rw [List.length_append, List.length_singleton]; omega
            go_wp2_with fail
            go_roundg (H - 1)
            case rel => exact ⟨q2 + 1, _, by omega, hl5, rfl, by go_num, Hm5, Hown5, HB5⟩
            case measure => omega
        · rw [if_neg hle] at Hst
          have g1 := below_cell HB3.out HK1.out hs1
          have g3 := below_cell HB3.out HK3.out hs2
          go_wp2_with fail
          have r_g1 := cell_regrown g1
          have r_g3 := cell_regrown g3
          go_wp2_with fail
          refine wp_region_qb (by kernel_rfl) (by kernel_rfl) ?_
          repeat (go_big_quiet_step (first | fail))
          refine wpQuiet_nil ?_
          intro w5 B5
          have HB5 := Lib.hid (HB3.out.trans (B5.mono HB3.out.size))
          have Hown5 := Lib.hid (Hown3.out.keep B5)
          clear g1 g3 r_g1 r_g3 B5 Hown3 HB3
          by_cases hxy : x2 < y2
          · rw [if_pos hxy] at Hst
            have Hm5 : Hid (metF a b = done2 ++ metF (a.drop (p + 1)) (b.drop q2)) := by unfold Hid; rw [Hm2.out, Hst.out, List.nil_append]
            go_wp2_with fail
            go_roundg (G - 1)
            case rel => exact ⟨p + 1, q2, _, by omega, by omega, by omega, by go_num, rfl, Hm5, Hown5, HB5⟩
            case measure => omega
          · rw [if_neg hxy] at Hst
            have Hm5 : Hid (metF a b = done2 ++ metF (a.drop p) (b.drop (q2 + 1))) := by unfold Hid; rw [Hm2.out, Hst.out, List.nil_append]
            go_wp2_with fail
            go_roundg (H - 1)
            case rel => exact ⟨q2 + 1, _, by omega, by omega, rfl, by go_num, Hm5, Hown5, HB5⟩
            case measure => omega

theorem othersF_step {l : List Rk} {k : Nat} (h : k < l.length) (f : Int) : othersF f (l.drop k) = (if f < l[k].1 then [(f, l[k].1 - 1)] else []) ++ othersF (l[k].2 + 1) (l.drop (k + 1)) := by
  rw [List.drop_eq_getElem_cons h, othersF]

set_option maxHeartbeats 4000000 in
set_option maxRecDepth 100000 in
theorem others_any (A : Option Addr) (n c : Nat) (l : List Rk) (w : World) (S : Nat → Prop) (hmax : l.length ≤ 1000000) (hr : ∀ x ∈ l, 0 ≤ x.1 ∧ x.1 ≤ 999999999 ∧ 0 ≤ x.2 ∧ x.2 ≤ 999999999) (hl : SlV rRnk w S l (.slice A n c)) :
    Calls Tryz.prog 57 #[.slice A n c] w fun e w' => ∃ v, e = .returned v ∧ SlV rRnk w' (fun b => w.heap.size ≤ b) (othersF 0 l) v ∧ Below w.heap.size w w' := by
  have hnx := hl.n_eq
  have HX := Lib.hid (hl.more (S' := fun b => b < w.heap.size) fun b _ hlt => hlt)
  have hn63 : n ≤ 1000000 := by omega
  have Hr := Lib.hid hr
  have Hnx := Lib.hid hnx; clear hnx
  clear hl hr hmax
  go_enter Tryz.func57, Tryz.ntmps57
  go_wp2_with fail
  go_loopw [3, 4, 9] (fun v g i wr => ∃ (k : Nat) (f : Int) (done : List Rk), k ≤ n ∧ i = .int .i64 k ∧ g = .int .i64 f ∧ 0 ≤ f ∧ f ≤ 1000000000 ∧ done.length ≤ k ∧ Hid (othersF 0 l = done ++ othersF f (l.drop k)) ∧ Hid (Own rRnk wr w.heap.size 59 v done (fun _ => False)) ∧ Hid (Below w.heap.size w wr)) (fun _ _ i _ => n - (intOf i).toNat)
  case atStart => exact ⟨0, 0, [], Nat.zero_le _, rfl, rfl, by omega, by omega, Nat.zero_le _, rfl, Own.nil_ _ _ _ _ (fun b hb => hb.elim), Below.refl _ _⟩
  case round =>
    obtain ⟨k, f, done, hk, rfl, rfl, hf0, hf1, hdl, Hm, Hown, HB⟩ := hrel
    have hbw := HB.out.size
    by_cases hlt : k < n
    case neg =>
      have hlt' : ¬ (k : Int) < (n : Int) := by omega
      have hm : othersF 0 l = done ++ othersF f [] := by rw [Hm.out, List.drop_eq_nil_of_le (by have := Hnx.out; omega)]
      rw [othersF] at hm
      by_cases hfl : f ≤ 999999999
      · rw [if_pos (show f ≤ lastR from hfl)] at hm
        have Hm2 := Lib.hid hm
        have hfi : I64 f := by unfold I64; omega
        clear hm
        go_wp2_with (at_builtin; refine wpList_push (by rfl) _ _ _ (by rfl) elt_rnk Tryz.underlying54 (by rfl) (Hown.out.alloc _) ⟨wr.heap.size, 0, none⟩ 1 [.int .i64 f, .int .i64 999999999] (f, lastR) (by rfl) ⟨rfl, hfi, by unfold I64 lastR; omega⟩ (news_of wr #[.int .i64 f, .int .i64 999999999] _) (by unfold maxLen; omega) (by omega) (by simp; omega) (wr.heap.size + 1) (by simp) ?_)
        intro g cap w4 hown4 hgrow hat hg4
        have HB4 := Lib.hid (bgrown (bal HB.out _) hgrow (Hown.out.alloc _) (Nat.le_refl _))
        have Hs := Lib.hid hown4.slv
        rw [← Hm2.out] at Hs
        clear hown4 hgrow hat
        go_wp2_with fail
        go_ret
        exact ⟨_, rfl, Hs.out.more (fun b hb _ => by rcases hb with h | h; exact h.elim; exact h), HB4.out⟩
      · rw [if_neg (show ¬ f ≤ lastR from hfl), List.append_nil] at hm
        have Hs := Lib.hid Hown.out.slv
        rw [← hm] at Hs
        clear hm
        go_wp2_with fail
        go_ret
        exact ⟨_, rfl, Hs.out.more (fun b hb _ => by rcases hb with h | h; exact h.elim; exact h), HB.out⟩
    have hltI : (k : Int) < (n : Int) := by omega
    have hk0 : (0 : Int) ≤ (k : Int) := by omega
    have hkx : k < l.length := by have := Hnx.out; omega
    obtain ⟨b1, o1, cs1, rfl, hs1, _, ⟨rfl, hi1, hi2⟩, hcell1⟩ := HX.out.elem (List.getElem?_eq_getElem hkx)
    have c0 := below_cell HB.out (hcell1 0 _ rfl) hs1
    have c1 := below_cell HB.out (hcell1 1 _ rfl) hs1
    simp only [rRnk, Nat.add_zero] at c0 c1
    have Hst := Lib.hid (othersF_step hkx f)
    obtain ⟨r1, r2, r3, r4⟩ := Hr.out l[k] (List.getElem_mem hkx)
    clear hcell1
    generalize l[k] = x at *
    obtain ⟨x1, x2⟩ := x
    simp only at c0 c1 Hst hi1 hi2 r1 r2 r3 r4
    have hw1 : IntKind.i64.wrap (x1 - 1) = x1 - 1 := IntWalk.i64_in _ ⟨by omega, by omega⟩
    have hw2 : IntKind.i64.wrap (x2 + 1) = x2 + 1 := IntWalk.i64_in _ ⟨by omega, by omega⟩
    by_cases hfx : f < x1
    · rw [if_pos hfx] at Hst
      have Hm2 : Hid (othersF 0 l = (done ++ [(f, x1 - 1)]) ++ othersF (x2 + 1) (l.drop (k + 1))) := by unfold Hid; rw [Hm.out, Hst.out, List.append_assoc]
      have hl5 : (done ++ [(f, x1 - 1)]).length ≤ k + 1 := by rw [List.length_append, List.length_singleton]; omega
      have hIf : I64 f ∧ I64 (x1 - 1) := by unfold I64; omega
      have HIf := Lib.hid hIf
      clear Hm Hst hIf
      go_wp2_with (at_builtin; refine wpList_push (by rfl) _ _ _ (by rfl) elt_rnk Tryz.underlying54 (by rfl) ((Hown.out.alloc _).alloc _) ⟨wr.heap.size + 1, 0, none⟩ 1 [.int .i64 f, .int .i64 (x1 - 1)] (f, x1 - 1) (by rfl) ⟨rfl, HIf.out.1, HIf.out.2⟩ (by intro j u hu; have := news_of (wr.alloc (.cells #[.int .i64 x1, .int .i64 x2] 59)) #[.int .i64 f, .int .i64 (x1 - 1)] 59 j u hu; rwa [World.size_alloc] at this) (by unfold maxLen; omega) (by omega) (by simp; omega) (wr.heap.size + 2) (by simp) ?_)
      intro g cap w4 hown4 hgrow hat hg4
      have HB4 := Lib.hid (bgrown (bal (bal HB.out _) _) hgrow ((Hown.out.alloc _).alloc _) (Nat.le_refl _))
      have Hown4 := Lib.hid hown4
      have e1 : w4.cell? ⟨wr.heap.size, 1, none⟩ = some (.int .i64 x2) := by
        rw [World.cell?_of_block (hgrow.block wr.heap.size (by simp; omega) (fun e => by have := Hown.out.lt _ e.symm; omega))]
        simp [go_sem]
      clear hown4 hgrow hat hg4 c0 c1
      go_wp2_with fail
      go_roundw
      case rel => exact ⟨k + 1, x2 + 1, _, by omega, by go_num, by first | rfl | rw [hw2], by omega, by omega, hl5, Hm2, Hown4, HB4⟩
      case measure => simp [intOf]; omega
    · rw [if_neg hfx, List.nil_append] at Hst
      have Hm2 : Hid (othersF 0 l = done ++ othersF (x2 + 1) (l.drop (k + 1))) := by unfold Hid; rw [Hm.out, Hst.out]
      clear Hm Hst
      have HB4 := Lib.hid (bal HB.out (.cells #[.int .i64 x1, .int .i64 x2] 59))
      have Hown4 := Lib.hid (Hown.out.alloc (.cells #[.int .i64 x1, .int .i64 x2] 59))
      go_wp2_with fail
      go_roundw
      case rel => exact ⟨k + 1, x2 + 1, _, by omega, by go_num, by first | rfl | rw [hw2], by omega, by omega, by omega, Hm2, Hown4, HB4⟩
      case measure => simp [intOf]; omega
end Go.Proofs.YtghihopmiagcpaaGreatDoor
