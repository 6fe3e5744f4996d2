/-
  The program's ranks of spans, walked.
-/
import Derived.Test.YtanipbpphbkmcaaDoorSpanM
import Derived.Test.YtanipbpphbkmcaaDoorSpanP
set_option autoImplicit false
set_option relaxedAutoImplicit false
set_option linter.unusedVariables false
set_option linter.unusedSimpArgs false
namespace Go.Proofs.YtanipbpphbkmcaaDoor
open Go.Rows Go.RowKit Go.Shelf Go.Sort

def rRnk : Rp (Int × Int) where
  size := 2
  holds := fun _ _ x cs => cs = [.int .i64 x.1, .int .i64 x.2] ∧ I64 x.1 ∧ I64 x.2
  len := fun ⟨h, _⟩ => by rw [h]; rfl
  one := fun ⟨h, _⟩ => by rw [h]; simp [Value.oneCell']
  mono := fun h _ => h
theorem elt_rnk : Elt Tryd.prog 137 2 16 := Elt.mk' (z := .agg #[.int .i64 0, .int .i64 0]) (by kernel_rfl) rfl (by decide)

theorem bgrown {α : Type} {r : Rp α} {w W W' : World} {e : TypeId} {v : Value} {l : List α} {S : Nat → Prop} (h : Below w.heap.size w W) (hg : W.grownBy W' v.ownBlock) {B : Nat} (hown : Own r W B e v l S) (hB : w.heap.size ≤ B) : Below w.heap.size w W' :=
  h.grown hg h.size (fun g' hg' => Nat.le_trans hB (hown.lt g' hg').1)

set_option maxHeartbeats 1000000 in
theorem numbers_any (A : Option Addr) (n c : Nat) (l : List Spn) (w : World) (S : Nat → Prop) (hmax : l.length ≤ 1000000000) (hl : SlV rSpn w S l (.slice A n c)) :
    Calls Tryd.prog 94 #[.slice A n c] w fun e w' => ∃ v, e = .returned v ∧ SlV rRnk w' (fun b => w.heap.size ≤ b) (l.map fun s => (s.lo.rank, s.hi.rank)) v ∧ Below w.heap.size w w' := by
  have hnx := hl.n_eq
  have hl' := hl.more (S' := fun b => b < w.heap.size) fun b _ hlt => hlt
  have hn63 : n ≤ 1000000000 := by omega
  have Hnx := Lib.hid hnx; clear hnx
  clear hl
  go_enter Tryd.func94, Tryd.ntmps94
  go_wp2_with fail
  go_loopw [3, 12] (fun v i wr => ∃ (k : Nat), k ≤ n ∧ i = .int .i64 k ∧ Hid (Own rRnk wr w.heap.size 137 v ((l.take k).map fun s => (s.lo.rank, s.hi.rank)) (fun _ => False)) ∧ Below w.heap.size w wr) (fun _ i _ => n - (intOf i).toNat)
  case atStart => exact ⟨0, Nat.zero_le _, rfl, Own.nil_ _ _ _ _ (fun b hb => hb.elim), Below.refl _ _⟩
  case round =>
    obtain ⟨k, hk, rfl, Hown, hbel⟩ := hrel
    by_cases hlt : k < n
    · have hkx : k < l.length := by have := Hnx.out; omega
      have hlw := hl'.below hbel (fun b hb => hb)
      have hbw := hbel.size
      obtain ⟨b, o, cs, rfl, hSb, hbl, hsp, hcell⟩ := hlw.elem (List.getElem?_eq_getElem hkx)
      obtain ⟨rfl, _, _, _, _, _, _⟩ := hsp
      have c0 := hcell 0 _ rfl
      have c1 := hcell 1 _ rfl
      have c2 := hcell 2 _ rfl
      have c3 := hcell 3 _ rfl
      have c4 := hcell 4 _ rfl
      have c5 := hcell 5 _ rfl
      simp only [rSpn, Nat.add_zero, Nat.mul_one] at c0 c1 c2 c3 c4 c5
      clear hcell
      have Htk : Hid ((l.take (k + 1)).map (fun s => (s.lo.rank, s.hi.rank)) = (l.take k).map (fun s => (s.lo.rank, s.hi.rank)) ++ [(l[k].lo.rank, l[k].hi.rank)]) := by
        unfold Hid; rw [List.take_succ_eq_append_getElem hkx, List.map_append]; rfl
      have hlen : ((l.take k).map fun s => (s.lo.rank, s.hi.rank)).length = k := by simp; omega
      clear hlw
      have hkn : (k : Int) < (n : Int) := by omega
      generalize l[k] = s at *
      obtain ⟨⟨x1, x2, x3⟩, ⟨x4, x5, x6⟩⟩ := s
      simp only at c0 c1 c2 c3 c4 c5
      have H1 := Lib.hid (fun W => versRank_any x1 x2 x3 W)
      have H2 := Lib.hid (fun W => versRank_any x4 x5 x6 W)
      obtain ⟨p1, p2⟩ := rankR_bounds x1 x2 x3
      obtain ⟨q1, q2⟩ := rankR_bounds x4 x5 x6
      have Htk' : Hid ((l.take (k + 1)).map (fun s => (s.lo.rank, s.hi.rank)) = (l.take k).map (fun s => (s.lo.rank, s.hi.rank)) ++ [(rankR x1 x2 x3, rankR x4 x5 x6)]) := Htk.out
      clear Htk
      generalize (l.take k).map (fun s => (s.lo.rank, s.hi.rank)) = done at *
      generalize rankR x1 x2 x3 = r1 at *
      generalize rankR x4 x5 x6 = r2 at *
      generalize verB x1 x2 x3 = v1 at *
      generalize verB x4 x5 x6 = v2 at *
      have Hlen := Lib.hid hlen; clear hlen
      go_wp2_with fail
      refine (H1.out _).mono ?_
      rintro e w1 ⟨rfl, hb1⟩
      have e3 := hb1.cell (p := ⟨wr.heap.size, 3, none⟩) (by simp)
      have e4 := hb1.cell (p := ⟨wr.heap.size, 4, none⟩) (by simp)
      have e5 := hb1.cell (p := ⟨wr.heap.size, 5, none⟩) (by simp)
      simp [go_sem] at e3 e4 e5
      have Hb1 := Lib.hid (bnew hb1)
      clear hb1
      go_wp2_with fail
      refine (H2.out _).mono ?_
      rintro e w2 ⟨rfl, hb2⟩
      have Hb2 := Lib.hid (bot Hb1.out hb2)
      clear hb2 e3 e4 e5 c0 c1 c2 c3 c4 c5
      have HB := Lib.hid (bot hbel Hb2.out)
      have Hown2 := Lib.hid (Hown.out.keep Hb2.out)
      have hw2 := HB.out.size
      go_wp2_with (at_builtin; refine wpList_push (by rfl) _ _ _ (by rfl) elt_rnk Tryd.underlying134 (by rfl) (Hown2.out.alloc _) ⟨w2.heap.size, 0, none⟩ 1 [.int .i64 r1, .int .i64 r2] (r1, r2) (by rfl) ⟨rfl, ⟨by omega, by omega⟩, by omega, by omega⟩ (news_of w2 #[.int .i64 r1, .int .i64 r2] _) (by rw [Hlen.out]; unfold maxLen; omega) (by rw [Hlen.out]; omega) (by simp; omega) (w2.heap.size + 1) (by simp) ?_)
      intro g cap w3 hown3 hgrow hat hg3
      have HB3 := Lib.hid (bgrown (bal HB.out _) hgrow (Hown2.out.alloc _) (Nat.le_refl _))
      have Hown3 := Lib.hid hown3
      clear hown3 hgrow
      go_wp2_with fail
      go_roundw
      case rel => exact ⟨k + 1, by omega, by go_num, by unfold Hid; rw [Htk'.out]; exact Hown3.out, HB3.out⟩
      case measure => simp [intOf]; omega
    · have hkn : k = l.length := by have := Hnx.out; omega
      have hs := Hown.out.slv
      rw [hkn, List.take_length] at hs
      clear hkn
      go_wp2_with fail
      go_ret
      exact ⟨_, rfl, hs.more (fun b hb _ => by rcases hb with h | h; exact h.elim; exact h), hbel⟩
end Go.Proofs.YtanipbpphbkmcaaDoor
