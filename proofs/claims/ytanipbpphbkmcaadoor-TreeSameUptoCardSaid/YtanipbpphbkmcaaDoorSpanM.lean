/-
  May of a list of spans: the program's and the document's, walked.
-/
import Derived.Test.YtanipbpphbkmcaaDoorVers
set_option autoImplicit false
set_option relaxedAutoImplicit false
set_option linter.unusedVariables false
set_option linter.unusedSimpArgs false
namespace Go.Proofs.YtanipbpphbkmcaaDoor
open Go.Rows Go.RowKit Go.Shelf Go.Sort

theorem spanGo_at {le : Int} {l : List Spn} {k : Nat} (h : k < l.length) : spanGo le (l.drop k) =
    ((verB l[k].lo.major l[k].lo.minor l[k].lo.patch && verB l[k].hi.major l[k].hi.minor l[k].hi.patch && decide (le ≤ rankR l[k].lo.major l[k].lo.minor l[k].lo.patch) &&
      decide (rankR l[k].lo.major l[k].lo.minor l[k].lo.patch ≤ rankR l[k].hi.major l[k].hi.minor l[k].hi.patch)) && spanGo (rankR l[k].hi.major l[k].hi.minor l[k].hi.patch + 2) (l.drop (k + 1))) := by
  rw [List.drop_eq_getElem_cons h]; rfl
theorem spansB_big {l : List Spn} (h : ¬ l.length ≤ 64) : spansB l = false := by simp [spansB, h]
theorem spansB_small {l : List Spn} (h : l.length ≤ 64) : spansB l = spanGo 0 l := by simp [spansB, h]

set_option maxHeartbeats 1000000 in
theorem spanMay_any (A : Option Addr) (n c : Nat) (l : List Spn) (w : World) (S : Nat → Prop) (hl : SlV rSpn w S l (.slice A n c)) :
    Calls Tryd.prog 76 #[.slice A n c] w fun e w' => e = .returned (.bool (spansB l)) ∧ Below w.heap.size w w' := by
  have hnx := hl.n_eq
  by_cases h64 : n ≤ 64
  · have Hs : Hid (spansB l = spanGo 0 l) := spansB_small (by omega)
    have hl' := hl.more (S' := fun b => b < w.heap.size) fun b _ hlt => hlt
    have Hnx := Lib.hid hnx; clear hnx
    clear hl
    generalize spansB l = r at *
    go_enter Tryd.func76, Tryd.ntmps76
    go_wp2_with fail
    go_loopw [3, 15] (fun t i wr => ∃ (k : Nat) (le : Int), k ≤ n ∧ i = .int .i64 k ∧ t = .int .i64 le ∧ (0 ≤ le ∧ le ≤ 1000000001) ∧ Hid (spanGo 0 l = spanGo le (l.drop k)) ∧ Below w.heap.size w wr) (fun _ i _ => n - (intOf i).toNat)
    case atStart => exact ⟨0, 0, Nat.zero_le _, rfl, rfl, by omega, by simp [Hid], Below.refl _ _⟩
    case round =>
      obtain ⟨k, le, hk, rfl, rfl, ⟨hle0, hle1⟩, hgo, hbel⟩ := hrel
      by_cases hlt : k < n
      · have hkx : k < l.length := by have := Hnx.out; omega
        have hlw := hl'.below hbel (fun b hb => hb)
        obtain ⟨b, o, cs, rfl, hSb, hbl, hsp, hcell⟩ := hlw.elem (List.getElem?_eq_getElem hkx)
        obtain ⟨rfl, _, _, _, _, _, _⟩ := hsp
        have c0 := hcell 0 _ rfl
        have c1 := hcell 1 _ rfl
        have c2 := hcell 2 _ rfl
        have c3 := hcell 3 _ rfl
        have c4 := hcell 4 _ rfl
        have c5 := hcell 5 _ rfl
        simp only [rSpn, Nat.add_zero, Nat.mul_one] at c0 c1 c2 c3 c4 c5
        clear hcell
        have Hgo := Lib.hid (spanGo_at (le := le) hkx)
        clear hlw
        have hkn : (k : Int) < (n : Int) := by omega
        generalize l[k] = s at *
        obtain ⟨⟨x1, x2, x3⟩, ⟨x4, x5, x6⟩⟩ := s
        simp only at c0 c1 c2 c3 c4 c5
        have H1 := Lib.hid (fun W => versRank_any x1 x2 x3 W)
        have H2 := Lib.hid (fun W => versRank_any x4 x5 x6 W)
        obtain ⟨p1, p2⟩ := rankR_bounds x1 x2 x3
        obtain ⟨q1, q2⟩ := rankR_bounds x4 x5 x6
        generalize hr1 : rankR x1 x2 x3 = r1 at *
        generalize hr2 : rankR x4 x5 x6 = r2 at *
        generalize hv1 : verB x1 x2 x3 = v1 at *
        generalize hv2 : verB x4 x5 x6 = v2 at *
        have Hgo' : Hid (spanGo le (l.drop k) = ((v1 && v2 && decide (le ≤ r1) && decide (r1 ≤ r2)) && spanGo (r2 + 2) (l.drop (k + 1)))) := by
          have := Hgo.out; try simp only [hr1, hr2, hv1, hv2] at this
          exact this
        clear Hgo hr1 hr2 hv1 hv2
        go_wp2_with fail
        refine (H1.out _).mono ?_
        rintro e w1 ⟨rfl, hb1⟩
        have e3 := hb1.cell (p := ⟨wr.heap.size, 3, none⟩) (by simp)
        have e4 := hb1.cell (p := ⟨wr.heap.size, 4, none⟩) (by simp)
        have e5 := hb1.cell (p := ⟨wr.heap.size, 5, none⟩) (by simp)
        simp [go_sem] at e3 e4 e5
        have B1 := bot hbel (bnew hb1)
        clear hb1 hbel
        go_wp2_with fail
        refine (H2.out _).mono ?_
        rintro e w2 ⟨rfl, hb2⟩
        have B2 := bot B1 hb2
        clear hb2 B1 e3 e4 e5 c0 c1 c2 c3 c4 c5
        have Hend : Hid ((v1 && v2 && decide (le ≤ r1) && decide (r1 ≤ r2)) = false → r = false) := fun h => by rw [Hs.out, hgo.out, Hgo'.out, h]; rfl
        have Hon : Hid ((v1 && v2 && decide (le ≤ r1) && decide (r1 ≤ r2)) = true → spanGo 0 l = spanGo (r2 + 2) (l.drop (k + 1))) := fun h => by rw [hgo.out, Hgo'.out, h, Bool.true_and]
        clear hgo Hgo'
        cases v1
        · go_wp2_with fail
          go_ret
          exact ⟨ret_bool (Hend.out rfl).symm, B2⟩
        · cases v2
          · go_wp2_with fail
            go_ret
            exact ⟨ret_bool (Hend.out rfl).symm, B2⟩
          · by_cases g1 : r1 < le
            · have He := Lib.hid (Hend.out (by simp; omega))
              go_wp2_with fail
              go_ret
              exact ⟨ret_bool He.out.symm, B2⟩
            · by_cases g2 : r2 < r1
              · have He := Lib.hid (Hend.out (by simp; omega))
                go_wp2_with fail
                go_ret
                exact ⟨ret_bool He.out.symm, B2⟩
              · have He := Lib.hid (Hon.out (by simp; omega))
                go_wp2_with fail
                go_roundw
                case rel => exact ⟨k + 1, r2 + 2, by omega, by go_num, rfl, by omega, He, B2⟩
                case measure => simp [intOf]; omega
      · have He : Hid (r = true) := by
          unfold Hid
          rw [Hs.out, hgo.out, List.drop_eq_nil_of_le (by have := Hnx.out; omega)]; rfl
        go_wp2_with fail
        go_ret
        exact ⟨ret_bool He.out.symm, hbel⟩
  · have Hs : Hid (spansB l = false) := spansB_big (by omega)
    clear hnx hl
    generalize spansB l = r at *
    have h64' : (64 : Int) < (n : Int) := by omega
    go_enter Tryd.func76, Tryd.ntmps76
    go_wp2_with fail
    go_ret
    exact ⟨ret_bool Hs.out.symm, Below.refl _ _⟩

/-- the rank behind which the next span may begin -/
def prevLe (l : List Spn) : Nat → Int
  | 0 => 0
  | q + 1 => (match l[q]? with | some s => rankR s.hi.major s.hi.minor s.hi.patch | none => 0) + 2
theorem prevLe_succ {l : List Spn} {q : Nat} (h : q < l.length) : prevLe l (q + 1) = rankR l[q].hi.major l[q].hi.minor l[q].hi.patch + 2 := by
  simp [prevLe, List.getElem?_eq_getElem h]

end Go.Proofs.YtanipbpphbkmcaaDoor
