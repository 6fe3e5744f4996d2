/-
  The program's Print of spans, walked.
-/
import Derived.Test.YthbnmehbhpakaaaGreatDoorDi08
import Derived.Outline
import Derived.Test.YthbnmehbhpakaaaGreatDoorDi05
set_option autoImplicit false
set_option relaxedAutoImplicit false
set_option linter.unusedVariables false
set_option linter.unusedSimpArgs false
namespace Go.Proofs.YthbnmehbhpakaaaGreatDoor
open Go.Rows Go.RowKit Go.Shelf Go.Sort

theorem elt_string : Elt Tryz.prog 9 1 16 := Elt.mk' (z := .string ByteArray.empty) (by kernel_rfl) rfl (by decide)
theorem news_at {w : World} {cs : Array Value} {t : TypeId} {H : Nat} (h : w.heap.size = H) : ∀ (j : Nat) (u : Value), cs.toList[j]? = some u → (w.alloc (.cells cs t)).cell? ((⟨H, 0, none⟩ : Addr).add j) = some u := by
  subst h; exact news_of w cs t
theorem join_any (A : Option Addr) (n c : Nat) (l : List ByteArray) (w : World) (S : Nat → Prop) (hne : l ≠ []) (hN : l.length ≤ 1000000000) (hz : (joinB l).size ≤ 1000000000) (hl : SlV rStr w S l (.slice A n c)) :
    Calls Tryz.prog 96 #[.slice A n c, .string ⟨#[32, 124, 124, 32]⟩] w fun e w' => e = .returned (.string (joinB l)) ∧ Below w.heap.size w w' := by
  have hn := hl.n_eq
  have hc := hl.cap_le
  have hpos : 0 < l.length := List.length_pos_iff.2 hne
  obtain ⟨b, o, cs, rfl, hS, hb, _, _⟩ := hl.elem (List.getElem?_eq_getElem hpos)
  subst hn
  refine Tryz.strings_Join b o c l sepB w (fun j x hx => ?_) hb (by omega) hc.1 (by
    have : (joinB l).size = (Lib.join (l.map (·.data.toList)) sepB.data.toList).length := by simp [joinB, ByteArray.size]
    omega)
  obtain ⟨b', o', cs', hA, _, _, ⟨rfl, _⟩, hcell⟩ := hl.elem hx
  injection hA with hA
  injection hA with hb' ho' _
  subst hb' ho'
  have := hcell 0 _ rfl
  simpa [rStr] using this

theorem keep33 {W w' w1 : World} {B C : Nat} {v0 v1 v2 v3 v4 v5 : Value} (hb : Below w'.heap.size w' w1) (h0 : w'.cell? ⟨B, 0, none⟩ = some v0) (h1 : w'.cell? ⟨B, 1, none⟩ = some v1) (h2 : w'.cell? ⟨B, 2, none⟩ = some v2)
    (h3 : w'.cell? ⟨C, 0, none⟩ = some v3) (h4 : w'.cell? ⟨C, 1, none⟩ = some v4) (h5 : w'.cell? ⟨C, 2, none⟩ = some v5) (hB : Below W.heap.size W w') (hlt : C < w'.heap.size) (hBC : B < C) :
    w1.cell? ⟨B, 0, none⟩ = some v0 ∧ w1.cell? ⟨B, 1, none⟩ = some v1 ∧ w1.cell? ⟨B, 2, none⟩ = some v2 ∧ w1.cell? ⟨C, 0, none⟩ = some v3 ∧ w1.cell? ⟨C, 1, none⟩ = some v4 ∧ w1.cell? ⟨C, 2, none⟩ = some v5 ∧ Below W.heap.size W w1 ∧ C < w1.heap.size :=
  have hl : B < w'.heap.size := Nat.lt_trans hBC hlt
  ⟨below_cell hb h0 hl, below_cell hb h1 hl, below_cell hb h2 hl, below_cell hb h3 hlt, below_cell hb h4 hlt, below_cell hb h5 hlt, bot hB hb, Nat.lt_of_lt_of_le hlt hb.size⟩

theorem keep33g {W w' w1 : World} {own : Option Nat} {B C : Nat} {v0 v1 v2 v3 v4 v5 : Value} (hg : w'.grownBy w1 own) (hf1 : ∀ g, own = some g → W.heap.size ≤ g) (hf2 : own ≠ some B) (hf3 : own ≠ some C) (h0 : w'.cell? ⟨B, 0, none⟩ = some v0) (h1 : w'.cell? ⟨B, 1, none⟩ = some v1) (h2 : w'.cell? ⟨B, 2, none⟩ = some v2)
    (h3 : w'.cell? ⟨C, 0, none⟩ = some v3) (h4 : w'.cell? ⟨C, 1, none⟩ = some v4) (h5 : w'.cell? ⟨C, 2, none⟩ = some v5) (hB : Below W.heap.size W w') (hlt : C < w'.heap.size) (hBC : B < C) :
    w1.cell? ⟨B, 0, none⟩ = some v0 ∧ w1.cell? ⟨B, 1, none⟩ = some v1 ∧ w1.cell? ⟨B, 2, none⟩ = some v2 ∧ w1.cell? ⟨C, 0, none⟩ = some v3 ∧ w1.cell? ⟨C, 1, none⟩ = some v4 ∧ w1.cell? ⟨C, 2, none⟩ = some v5 ∧ Below W.heap.size W w1 ∧ C < w1.heap.size :=
  have hl : B < w'.heap.size := Nat.lt_trans hBC hlt
  have eB := hg.block B hl (Ne.symm hf2)
  have eC := hg.block C hlt (Ne.symm hf3)
  ⟨(cell_same eB _ _).trans h0, (cell_same eB _ _).trans h1, (cell_same eB _ _).trans h2, (cell_same eC _ _).trans h3, (cell_same eC _ _).trans h4, (cell_same eC _ _).trans h5, hB.grown hg hB.size hf1, Nat.lt_of_lt_of_le hlt hg.size⟩

set_option maxHeartbeats 2000000 in
set_option maxRecDepth 100000 in
theorem spanPrint_any (A : Option Addr) (n c : Nat) (l : List Spn) (w : World) (S : Nat → Prop) (ht : Tab w) (hl : SlV rSpn w S l (.slice A n c)) :
    Calls Tryz.prog 128 #[.slice A n c] w fun e w' => e = .returned (.string (spansText l)) ∧ Below w.heap.size w w' := by
  have Hm := Lib.hid (spanMay_any A n c l w S hl)
  cases hv : spansB l
  · have Hs : Hid (spansText l = ⟨#[]⟩) := by unfold Hid spansText; rw [hv]; rfl
    rw [hv] at Hm
    clear hv hl ht
    generalize spansText l = r at *
    go_enter Tryz.func128, Tryz.ntmps128
    go_wp2_with fail
    refine (Hm.out).mono ?_
    rintro e w1 ⟨rfl, hb1⟩
    go_wp2_with fail
    go_ret
    exact ⟨ret_str Hs.out.symm, hb1⟩
  · have hl64 : l.length ≤ 64 := by simp [spansB] at hv; exact hv.1
    have Hs : Hid (spansText l = if l = [] then noneB else joinB (l.map spanText)) := by unfold Hid spansText; rw [hv]; rfl
    have Hmem := Lib.hid (spansB_mem hv)
    rw [hv] at Hm
    have Hn : Hid (∀ W, Below w.heap.size w W → Calls Tryz.prog 190 #[.slice A n c] W fun e w' => ∃ v, e = .returned v ∧ SlV rRnk w' (fun b => W.heap.size ≤ b) (l.map fun s => (s.lo.rank, s.hi.rank)) v ∧ Below W.heap.size W w') :=
      fun W hW => numbers_any A n c l W S (by omega) (hl.belowSize hW)
    have Ht := Lib.hid ht
    clear hv hl ht
    generalize spansText l = r at *
    go_enter Tryz.func128, Tryz.ntmps128
    go_wp2_with fail
    refine (Hm.out).mono ?_
    rintro e w1 ⟨rfl, hb1⟩
    go_wp2_with fail
    refine (Hn.out _ hb1).mono ?_
    rintro e wn ⟨v0, rfl, hv0, hbn⟩
    obtain ⟨A0, c0, rfl, _, _⟩ := hv0.val
    have Hnum : Hid (SlV rRnk wn (fun b => b < wn.heap.size) (l.map fun s => (s.lo.rank, s.hi.rank)) (.slice A0 (l.map fun s => (s.lo.rank, s.hi.rank)).length c0)) := hv0.more fun b _ hlt => hlt
    have hlen : (l.map fun s => (s.lo.rank, s.hi.rank)).length = l.length := by simp
    have HBn := Lib.hid (bot hb1 hbn)
    clear hv0 hb1 hbn
    rw [hlen] at *
    have Htn : Hid (Tab wn) := tab_below Ht.out HBn.out
    clear hlen
    generalize hL : l.length = ln at *
    have HL := Lib.hid hL; clear hL
    go_wp2_with fail
    go_loopw [3, 16] (fun v i wr => ∃ (k : Nat), k ≤ ln ∧ i = .int .i64 k ∧ Hid (Own rStr wr wn.heap.size 9 v ((l.take k).map spanText) (fun _ => False)) ∧ Below wn.heap.size wn wr) (fun _ i _ => ln - (intOf i).toNat)
    case atStart => exact ⟨0, Nat.zero_le _, rfl, Own.nil_ _ _ _ _ (fun b hb => hb.elim), Below.refl _ _⟩
    case round =>
      obtain ⟨k, hk, rfl, Hown, hbel⟩ := hrel
      by_cases hlt : k < ln
      · have hkx : k < l.length := by have := HL.out; omega
        have hbw := hbel.size
        have hlw := (Hnum.out.below hbel (fun b hb => hb))
        obtain ⟨b, o, cs, rfl, hSb, hbl, ⟨rfl, _, _⟩, hcell⟩ := hlw.elem (i := k) (x := (l[k].lo.rank, l[k].hi.rank)) (by simp [List.getElem?_eq_getElem hkx])
        have c0 := hcell 0 _ rfl
        have c1 := hcell 1 _ rfl
        simp only [rRnk, Nat.add_zero] at c0 c1
        clear hcell hlw
        obtain ⟨m1, m2, m3⟩ := Hmem.out l[k] (List.getElem_mem hkx)
        have Htk : Hid ((l.take (k + 1)).map spanText = (l.take k).map spanText ++ [spanText l[k]]) := by
          unfold Hid; rw [List.take_succ_eq_append_getElem hkx, List.map_append]; rfl
        have Hlen : Hid (((l.take k).map spanText).length = k) := by unfold Hid; simp; omega
        have hkn : (k : Int) < (ln : Int) := by omega
        generalize l[k] = s at *
        generalize (l.take k).map spanText = done at *
        obtain ⟨⟨x1, x2, x3⟩, ⟨x4, x5, x6⟩⟩ := s
        have m1' : verB x1 x2 x3 = true := m1
        have m2' : verB x4 x5 x6 = true := m2
        have k1 : rankR x1 x2 x3 = rankI x1 x2 x3 := Ver.rank_ok m1
        have k2 : rankR x4 x5 x6 = rankI x4 x5 x6 := Ver.rank_ok m2
        have ⟨p1, p2⟩ := rank_bounds m1'
        have ⟨q1, q2⟩ := rank_bounds m2'
        have H1 : Hid (∀ W, Calls Tryz.prog 191 #[.int .i64 (rankR x1 x2 x3)] W fun e w' => e = .returned (.tuple #[.agg #[.int .i64 x1, .int .i64 x2, .int .i64 x3], .bool true]) ∧ Below W.heap.size W w') := fun W => by
          have := versAt_any (rankI x1 x2 x3) p1 p2 W
          rw [rank_major m1', rank_minor m1', rank_patch m1'] at this
          rw [k1]; exact this
        have H2 : Hid (∀ W, Calls Tryz.prog 191 #[.int .i64 (rankR x4 x5 x6)] W fun e w' => e = .returned (.tuple #[.agg #[.int .i64 x4, .int .i64 x5, .int .i64 x6], .bool true]) ∧ Below W.heap.size W w') := fun W => by
          have := versAt_any (rankI x4 x5 x6) q1 q2 W
          rw [rank_major m2', rank_minor m2', rank_patch m2'] at this
          rw [k2]; exact this
        have H3 : Hid (∀ W, Below wn.heap.size wn W → Calls Tryz.prog 70 #[.agg #[.int .i64 x1, .int .i64 x2, .int .i64 x3]] W fun e w' => e = .returned (.string (verText x1 x2 x3)) ∧ Below W.heap.size W w') := fun W hW => versPrint_any x1 x2 x3 W (tab_below Htn.out hW)
        have H4 : Hid (∀ W, Below wn.heap.size wn W → Calls Tryz.prog 70 #[.agg #[.int .i64 x4, .int .i64 x5, .int .i64 x6]] W fun e w' => e = .returned (.string (verText x4 x5 x6)) ∧ Below W.heap.size W w') := fun W hW => versPrint_any x4 x5 x6 W (tab_below Htn.out hW)
        have hz1 := verText_le x1 x2 x3
        have hz2 := verText_le x4 x5 x6
        have Hst : Hid (spanText ⟨⟨x1, x2, x3⟩, ⟨x4, x5, x6⟩⟩ = if rankR x1 x2 x3 = rankR x4 x5 x6 then verText x1 x2 x3 else if rankR x1 x2 x3 = 0 then (if rankR x4 x5 x6 = 999999999 then starB else leB ++ verText x4 x5 x6) else if rankR x4 x5 x6 = 999999999 then geB ++ verText x1 x2 x3 else geB ++ verText x1 x2 x3 ++ andB ++ verText x4 x5 x6) := rfl
        have c0' : wr.cell? ⟨b, o + k * 2, none⟩ = some (.int .i64 (rankR x1 x2 x3)) := c0
        have c1' : wr.cell? ⟨b, o + k * 2 + 1, none⟩ = some (.int .i64 (rankR x4 x5 x6)) := c1
        clear c0 c1 m1 m2 m1' m2' p1 p2 q1 q2 k1 k2 m3
        generalize spanText ⟨⟨x1, x2, x3⟩, ⟨x4, x5, x6⟩⟩ = st at *
        generalize verText x1 x2 x3 = t1 at *
        generalize verText x4 x5 x6 = t2 at *
        obtain ⟨p1, p2⟩ := rankR_bounds x1 x2 x3
        obtain ⟨q1, q2⟩ := rankR_bounds x4 x5 x6
        generalize rankR x1 x2 x3 = r1 at *
        generalize rankR x4 x5 x6 = r2 at *
        go_wp2_with fail
        refine (H1.out _).mono ?_
        rintro e w2 ⟨rfl, hb2⟩
        have e0 := hb2.cell (p := ⟨wr.heap.size, 0, none⟩) (by simp)
        have e1 := hb2.cell (p := ⟨wr.heap.size, 1, none⟩) (by simp)
        simp [go_sem] at e0 e1
        have hz2' : wr.heap.size < w2.heap.size := by have := hb2.size; simp at this; omega
        have Hb2 := Lib.hid (bnew hb2)
        clear hb2 c0' c1'
        go_wp2_with fail
        refine (H2.out _).mono ?_
        rintro e w3 ⟨rfl, hb3⟩
        have f0 := below_cell ((bnew hb3).mono (Nat.le_refl _)) e0 hz2'
        have f1 := below_cell ((bnew hb3).mono (Nat.le_refl _)) e1 hz2'
        have g0 := hb3.cell (p := ⟨w2.heap.size, 0, none⟩) (by simp)
        have g1 := hb3.cell (p := ⟨w2.heap.size, 1, none⟩) (by simp)
        have g2 := hb3.cell (p := ⟨w2.heap.size, 2, none⟩) (by simp)
        simp [go_sem] at g0 g1 g2
        have hz3 : w2.heap.size < w3.heap.size := by have := hb3.size; simp at this; omega
        have hz4 : wr.heap.size < w3.heap.size := by omega
        have Hb3 := Lib.hid (bot Hb2.out (bnew hb3))
        have hfar1 := fun g h => (Hown.out.lt g h).1
        have hfar2 : u3.ownBlock ≠ some w2.heap.size := fun h => by have := (Hown.out.lt _ h).2; omega
        have hfar3 : u3.ownBlock ≠ some w3.heap.size := fun h => by have := (Hown.out.lt _ h).2; omega
        have Hf1 := Lib.hid hfar1; clear hfar1
        have Hf2 := Lib.hid hfar2; clear hfar2
        have Hf3 := Lib.hid hfar3; clear hfar3
        have Hown3 := Lib.hid (Hown.out.keep Hb3.out)
        have HB3 := Lib.hid (bot hbel Hb3.out)
        have hw3 := HB3.out.size
        clear hb3 e0 e1 Hb2 Hown Hb3
        by_cases h12 : r1 = r2
        · have hb12 : (r1 == r2) = true := by simp [h12]
          have He : Hid (st = t1) := by unfold Hid; rw [Hst.out, if_pos h12]
          clear h12 Hst
          go_wp2_with fail
          refine (H3.out _ (bal HB3.out _)).mono ?_
          rintro e w4 ⟨rfl, hb4⟩
          have HB4 := Lib.hid (bot (bal HB3.out _) hb4)
          have Hown4 := Lib.hid ((Hown3.out.alloc _).keep hb4)
          have hw4 := HB4.out.size
          clear hb4
          go_wp2_with (at_builtin; refine wpList_push (by rfl) _ _ _ (by rfl) elt_string Tryz.underlying53 (by rfl) (Hown4.out.alloc _) ⟨w4.heap.size, 0, none⟩ 1 [.string t1] t1 (by rfl) ⟨rfl, by unfold maxLen; omega⟩ (news_of w4 #[.string t1] _) (by rw [Hlen.out]; unfold maxLen; omega) (by rw [Hlen.out]; omega) (by simp; omega) (w4.heap.size + 1) (by simp) ?_)
          intro g9 cap9 w9 hown9 hgrow9 hat9 hlt9
          have HB9 := Lib.hid (bgrown (bal HB4.out _) hgrow9 (Hown4.out.alloc _) (Nat.le_refl _))
          have Hown9 := Lib.hid hown9
          clear hown9 hgrow9
          go_wp2_with fail
          go_roundw
          case rel => exact ⟨k + 1, by omega, by go_num, by unfold Hid; rw [Htk.out, He.out]; exact Hown9.out, HB9.out⟩
          case measure => simp [intOf]; omega
        · have hb12 : (r1 == r2) = false := by simp [h12]
          by_cases h1 : r1 = 0
          · have hb1 : (r1 == 0) = true := by simp [h1]
            by_cases h2 : r2 = 999999999
            · have hb2 : (r2 == 999999999) = true := by simp [h2]
              have He : Hid (st = starB) := by unfold Hid; rw [Hst.out, if_neg h12, if_pos h1, if_pos h2]
              have z : starB.size = 1 := rfl
              clear h12 h1 h2 Hst
              have Hown4 := Lib.hid (Hown3.out.alloc (.cells #[.int .i64 x4, .int .i64 x5, .int .i64 x6] 55))
              have HB4 := Lib.hid (bal HB3.out (.cells #[.int .i64 x4, .int .i64 x5, .int .i64 x6] 55))
              go_wp2_with (at_builtin; refine wpList_push (by rfl) _ _ _ (by rfl) elt_string Tryz.underlying53 (by rfl) (Hown4.out.alloc _) ⟨w3.heap.size + 1, 0, none⟩ 1 [.string starB] starB (by rfl) ⟨rfl, by unfold maxLen; omega⟩ (news_at (w := w3.alloc (.cells #[.int .i64 x4, .int .i64 x5, .int .i64 x6] 55)) (cs := #[.string starB]) (by simp)) (by rw [Hlen.out]; unfold maxLen; omega) (by rw [Hlen.out]; omega) (by simp; omega) (w3.heap.size + 1 + 1) (by simp) ?_)
              intro g9 cap9 w9 hown9 hgrow9 hat9 hlt9
              have HB9 := Lib.hid (bgrown (bal HB4.out _) hgrow9 (Hown4.out.alloc _) (Nat.le_refl _))
              have Hown9 := Lib.hid hown9
              clear hown9 hgrow9
              go_wp2_with fail
              go_roundw
              case rel => exact ⟨k + 1, by omega, by go_num, by unfold Hid; rw [Htk.out, He.out]; exact Hown9.out, HB9.out⟩
              case measure => simp [intOf]; omega
            · have hb2 : (r2 == 999999999) = false := by simp [h2]
              have He : Hid (st = leB ++ t2) := by unfold Hid; rw [Hst.out, if_neg h12, if_pos h1, if_neg h2]
              have z : leB.size = 2 := rfl
              have A1 : ∀ W : World, (Op.stringOp .add ⟨#[60, 61]⟩ t2).run Tryz.prog W = .ok (.string (leB ++ t2)) W := fun W => run_string_add_sum W leB t2 (by omega)
              have hz5 : (leB ++ t2).size ≤ 13 := by rw [ByteArray.size_append]; omega
              clear h12 h1 h2 Hst
              go_wp2_with fail
              refine (H4.out _ (bal HB3.out _)).mono ?_
              rintro e w4 ⟨rfl, hb4⟩
              have HB4 := Lib.hid (bot (bal HB3.out _) hb4)
              have Hown4 := Lib.hid ((Hown3.out.alloc _).keep hb4)
              have hw4 := HB4.out.size
              clear hb4
              go_wp2_with (at_builtin; refine wpList_push (by rfl) _ _ _ (by rfl) elt_string Tryz.underlying53 (by rfl) (Hown4.out.alloc _) ⟨w4.heap.size, 0, none⟩ 1 [.string (leB ++ t2)] (leB ++ t2) (by rfl) ⟨rfl, by unfold maxLen; omega⟩ (news_of w4 #[.string (leB ++ t2)] _) (by rw [Hlen.out]; unfold maxLen; omega) (by rw [Hlen.out]; omega) (by simp; omega) (w4.heap.size + 1) (by simp) ?_)
              intro g9 cap9 w9 hown9 hgrow9 hat9 hlt9
              have HB9 := Lib.hid (bgrown (bal HB4.out _) hgrow9 (Hown4.out.alloc _) (Nat.le_refl _))
              have Hown9 := Lib.hid hown9
              clear hown9 hgrow9
              go_wp2_with fail
              go_roundw
              case rel => exact ⟨k + 1, by omega, by go_num, by unfold Hid; rw [Htk.out, He.out]; exact Hown9.out, HB9.out⟩
              case measure => simp [intOf]; omega
          · have hb1 : (r1 == 0) = false := by simp [h1]
            by_cases h2 : r2 = 999999999
            · have hb2 : (r2 == 999999999) = true := by simp [h2]
              have He : Hid (st = geB ++ t1) := by unfold Hid; rw [Hst.out, if_neg h12, if_neg h1, if_pos h2]
              have z : geB.size = 2 := rfl
              have A1 : ∀ W : World, (Op.stringOp .add ⟨#[62, 61]⟩ t1).run Tryz.prog W = .ok (.string (geB ++ t1)) W := fun W => run_string_add_sum W geB t1 (by omega)
              have hz5 : (geB ++ t1).size ≤ 13 := by rw [ByteArray.size_append]; omega
              clear h12 h1 h2 Hst
              go_wp2_with fail
              refine (H3.out _ (bal HB3.out _)).mono ?_
              rintro e w4 ⟨rfl, hb4⟩
              have HB4 := Lib.hid (bot (bal HB3.out _) hb4)
              have Hown4 := Lib.hid ((Hown3.out.alloc _).keep hb4)
              have hw4 := HB4.out.size
              clear hb4
              go_wp2_with (at_builtin; refine wpList_push (by rfl) _ _ _ (by rfl) elt_string Tryz.underlying53 (by rfl) (Hown4.out.alloc _) ⟨w4.heap.size, 0, none⟩ 1 [.string (geB ++ t1)] (geB ++ t1) (by rfl) ⟨rfl, by unfold maxLen; omega⟩ (news_of w4 #[.string (geB ++ t1)] _) (by rw [Hlen.out]; unfold maxLen; omega) (by rw [Hlen.out]; omega) (by simp; omega) (w4.heap.size + 1) (by simp) ?_)
              intro g9 cap9 w9 hown9 hgrow9 hat9 hlt9
              have HB9 := Lib.hid (bgrown (bal HB4.out _) hgrow9 (Hown4.out.alloc _) (Nat.le_refl _))
              have Hown9 := Lib.hid hown9
              clear hown9 hgrow9
              go_wp2_with fail
              go_roundw
              case rel => exact ⟨k + 1, by omega, by go_num, by unfold Hid; rw [Htk.out, He.out]; exact Hown9.out, HB9.out⟩
              case measure => simp [intOf]; omega
            · have hb2 : (r2 == 999999999) = false := by simp [h2]
              have He : Hid (st = geB ++ t1 ++ andB ++ t2) := by unfold Hid; rw [Hst.out, if_neg h12, if_neg h1, if_neg h2]
              have z1 : geB.size = 2 := rfl
              have z2 : andB.size = 3 := rfl
              have A1 : ∀ W : World, (Op.stringOp .add ⟨#[62, 61]⟩ t1).run Tryz.prog W = .ok (.string (geB ++ t1)) W := fun W => run_string_add_sum W geB t1 (by omega)
              have A2 : ∀ W : World, (Op.stringOp .add (geB ++ t1) ⟨#[32, 60, 61]⟩).run Tryz.prog W = .ok (.string (geB ++ t1 ++ andB)) W := fun W => run_string_add_sum W _ andB (by rw [ByteArray.size_append]; omega)
              have A3 : ∀ W : World, (Op.stringOp .add (geB ++ t1 ++ andB) t2).run Tryz.prog W = .ok (.string (geB ++ t1 ++ andB ++ t2)) W := fun W => run_string_add_sum W _ _ (by rw [ByteArray.size_append, ByteArray.size_append]; omega)
              have hz5 : (geB ++ t1 ++ andB ++ t2).size ≤ 27 := by rw [ByteArray.size_append, ByteArray.size_append, ByteArray.size_append]; omega
              clear h12 h1 h2 Hst
              go_wp2_with fail
              go_region_held3 (fun w' => w'.cell? ⟨w2.heap.size, 0, none⟩ = some (.int .i64 x1) ∧ w'.cell? ⟨w2.heap.size, 1, none⟩ = some (.int .i64 x2) ∧ w'.cell? ⟨w2.heap.size, 2, none⟩ = some (.int .i64 x3) ∧
                  w'.cell? ⟨w3.heap.size, 0, none⟩ = some (.int .i64 x4) ∧ w'.cell? ⟨w3.heap.size, 1, none⟩ = some (.int .i64 x5) ∧ w'.cell? ⟨w3.heap.size, 2, none⟩ = some (.int .i64 x6) ∧ Below wn.heap.size wn w' ∧ w3.heap.size < w'.heap.size)
                (first
                  | exact ⟨by go_keep, by go_keep, by go_keep, by go_keep, by go_keep, by go_keep, (bal HB3.out _).drew, by simp⟩
                  | (go_split_ands; exact keep33 (by assumption) (by assumption) (by assumption) (by assumption) (by assumption) (by assumption) (by assumption) (by assumption) (by assumption) hz3)
                  | (go_split_ands; exact keep33 ((Below.refl _ _).alloc (Nat.le_refl _) _) (by assumption) (by assumption) (by assumption) (by assumption) (by assumption) (by assumption) (by assumption) (by assumption) hz3)
                  | (go_split_ands; exact keep33g hgrow9 Hf1.out Hf2.out Hf3.out (by assumption) (by assumption) (by assumption) (by assumption) (by assumption) (by assumption) (by assumption) (by assumption) hz3))
                (first
                  | (go_at_call 70; go_split_ands; (first | (with_reducible refine (H3.out _ (by assumption)).mono ?_) | (with_reducible refine (H4.out _ (by assumption)).mono ?_)); rintro e w' ⟨rfl, hb⟩)
                  | (go_split_ands; refine step_push (by rfl) _ _ _ (by rfl) elt_string Tryz.underlying53 (by rfl) (Own.alloc (Own.keep (Own.keep ((Hown3.out.alloc _).drew) (by assumption)) (by assumption)) _) ⟨_, 0, none⟩ 1 [.string (geB ++ t1 ++ andB ++ t2)] (geB ++ t1 ++ andB ++ t2) (by rfl) ⟨rfl, by unfold maxLen; omega⟩ (news_of _ #[.string (geB ++ t1 ++ andB ++ t2)] _) (by rw [Hlen.out]; unfold maxLen; omega) (by rw [Hlen.out]; omega) (Below.size (by assumption)) _ rfl ?_; intro g9 cap9 w9 hown9 hgrow9 hat9 hlt9))
              all_goals
                have HB9 : Hid (Below wn.heap.size wn w9) := by (go_split_ands; assumption)
                have Hown9 := Lib.hid hown9
                clear hown9 hgrow9
                go_wp2_with fail
                go_roundw
                case rel => exact ⟨k + 1, by omega, by go_num, by unfold Hid; rw [Htk.out, He.out]; exact Hown9.out, HB9.out⟩
                case measure => simp [intOf]; omega
      · have hkl : k = l.length := by have := HL.out; omega
        have htake : l.take k = l := by rw [hkl]; exact List.take_length
        have Hown1 : Hid (Own rStr wr wn.heap.size 9 u3 (l.map spanText) (fun _ => False)) := by have := Hown.out; rwa [htake] at this
        clear Hown htake
        have Hbel := Lib.hid (bot HBn.out hbel)
        by_cases hnil : l = []
        · have hk0 : k = 0 := by rw [hkl, hnil]; rfl
          have He : Hid (r = noneB) := by unfold Hid; rw [Hs.out, if_pos hnil]
          have hv := Hown1.out.slv
          rw [hnil] at hv
          obtain ⟨A9, c9, rfl, _, _⟩ := hv.val
          clear hv hnil hkl Hown1
          have hln0 : ¬ (k : Int) < (ln : Int) := by omega
          go_wp2_with fail
          go_ret
          exact ⟨ret_str He.out.symm, Hbel.out⟩
        · have He : Hid (r = joinB (l.map spanText)) := by unfold Hid; rw [Hs.out, if_neg hnil]
          have hv := Hown1.out.slv
          obtain ⟨A9, c9, rfl, _, _⟩ := hv.val
          have Hj := Lib.hid (join_any A9 _ c9 _ wr _ (by simpa using hnil) (by simp; omega) (by have := joinB_spans_le l; omega) hv)
          have hpos : 0 < (l.map spanText).length := by rw [List.length_map]; exact List.length_pos_iff.2 hnil
          clear hv hnil hkl Hown1
          generalize (l.map spanText).length = m9 at *
          have hln0 : ((m9 : Int) == 0) = false := by simp; omega
          have hlt' : ¬ (k : Int) < (ln : Int) := by omega
          generalize joinB (l.map spanText) = jt at *
          go_wp2_with fail
          with_reducible refine Hj.out.mono ?_
          rintro e w5 ⟨rfl, hb5⟩
          go_wp2_with fail
          go_ret
          exact ⟨ret_str He.out.symm, bot Hbel.out hb5⟩
end Go.Proofs.YthbnmehbhpakaaaGreatDoor
/-
  The document's Print of spans, walked.
-/
set_option autoImplicit false
set_option relaxedAutoImplicit false
set_option linter.unusedVariables false
set_option linter.unusedSimpArgs false
namespace Go.Proofs.YthbnmehbhpakaaaGreatDoor
open Go.Rows Go.RowKit Go.Shelf Go.Sort

end Go.Proofs.YthbnmehbhpakaaaGreatDoor
