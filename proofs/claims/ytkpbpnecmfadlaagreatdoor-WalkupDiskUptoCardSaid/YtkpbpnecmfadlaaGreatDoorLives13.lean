/-
  The small tree and graph of the lookups' law: what is found in it, and its map.
-/
import Derived.Test.YtkpbpnecmfadlaaGreatDoorMapP
import Derived.Test.YtkpbpnecmfadlaaGreatDoorSmall
import Derived.Test.YtkpbpnecmfadlaaGreatDoorMap
set_option autoImplicit false
set_option relaxedAutoImplicit false
set_option linter.unusedVariables false
set_option linter.unusedSimpArgs false
namespace Go.Proofs.YtkpbpnecmfadlaaGreatDoor
open Go.Rows Go.RowKit Go.Shelf Go.Sort

def aNode0 : Node := ⟨⟨#[]⟩, ⟨0, 0, 0⟩, [], [⟨aB, 1⟩]⟩
def aNode1 : Node := ⟨aB, ⟨1, 0, 0⟩, [], []⟩
theorem find_not {p : List ByteArray} (h0 : zeroDir.path ≠ p) (h1 : aDir.path ≠ p) : findI [zeroDir, aDir] p = -1 := by
  unfold findI firstI
  simp only [firstGo, eqB_false h0, eqB_false h1]
  rfl
theorem look_1a : lookI [zeroDir, aDir] 1 aB = 1 := by
  have h2 : findI [zeroDir, aDir] (([aB] : List ByteArray).take 1 ++ [aB]) = -1 := find_not (by decide) (by decide)
  have h1 : findI [zeroDir, aDir] (([aB] : List ByteArray).take 0 ++ [aB]) = 1 := find_a
  have h3 : lookDown [zeroDir, aDir] [aB] aB 2 = 1 := by
    rw [lookDown, h2, lookDown, h1]; rfl
  unfold lookI
  rw [dif_pos (by decide)]
  rw [show nameB aB = true by decide +kernel]
  exact h3
theorem look_0a : lookI [zeroDir, aDir] 0 aB = 1 := by
  have h1 : findI [zeroDir, aDir] (([] : List ByteArray).take 0 ++ [aB]) = 1 := find_a
  have h3 : lookDown [zeroDir, aDir] [] aB 1 = 1 := by
    rw [lookDown, h1]; rfl
  unfold lookI
  rw [dif_pos (by decide)]
  rw [show nameB aB = true by decide +kernel]
  exact h3
theorem look_0b : lookI [zeroDir, aDir] 0 ⟨#[98]⟩ = -1 := by
  have h1 : findI [zeroDir, aDir] (([] : List ByteArray).take 0 ++ [⟨#[98]⟩]) = -1 := find_not (by decide) (by decide)
  have h3 : lookDown [zeroDir, aDir] [] ⟨#[98]⟩ 1 = -1 := by
    rw [lookDown, h1, lookDown]; rfl
  unfold lookI
  rw [dif_pos (by decide)]
  rw [show nameB ⟨#[98]⟩ = true by decide +kernel]
  exact h3
theorem formed_small : formedB [aNode0, aNode1] = true := by decide +kernel
theorem edge_small : mapEdge [zeroDir, aDir] [aNode0, aNode1] 0 ([0, -1], []) ⟨aB, 1⟩ = some ([0, 1], [1]) := by
  unfold mapEdge
  have hp : packIs [zeroDir, aDir] [aNode0, aNode1] 1 1 = true := by
    rw [packIs_at (by decide) (by decide)]
    show (decide (aB = aB) && eqB (⟨1, 0, 0⟩ : Ver) ⟨1, 0, 0⟩) = true
    rw [eqB_true rfl, decide_eq_true rfl]; rfl
  simp only [show (((0 : Nat) : Int)) = 0 from rfl, look_0a]
  rw [if_pos ⟨by decide, hp⟩]
  rfl
theorem map_small : mapR [zeroDir, aDir] [aNode0, aNode1] = (some [0, 1], 0) := by
  unfold mapR
  rw [check_small, if_neg (by decide), formed_small, if_neg (by decide)]
  have e1 : mapEdges [zeroDir, aDir] [aNode0, aNode1] 0 (edgesOf [aNode0, aNode1] (([0, -1] : List Int).getD 0 0)) ([0, -1], []) = some ([0, 1], [1]) := by
    show mapEdges [zeroDir, aDir] [aNode0, aNode1] 0 [⟨aB, 1⟩] ([0, -1], []) = _
    rw [mapEdges, edge_small]
    rfl
  have e2 : mapEdges [zeroDir, aDir] [aNode0, aNode1] 1 (edgesOf [aNode0, aNode1] (([0, 1] : List Int).getD 1 0)) ([0, 1], []) = some ([0, 1], []) := by
    show mapEdges [zeroDir, aDir] [aNode0, aNode1] 1 [] ([0, 1], []) = _
    rw [mapEdges]
  have e3 : mapLoop [zeroDir, aDir] [aNode0, aNode1] 3 ([0, -1], [0]) = some [0, 1] := by
    rw [mapLoop_cons, e1]
    show mapLoop [zeroDir, aDir] [aNode0, aNode1] 2 ([0, 1], [1]) = _
    rw [mapLoop_cons, e2]
    show mapLoop [zeroDir, aDir] [aNode0, aNode1] 1 ([0, 1], []) = _
    rw [mapLoop]
  have e4 : mapLoop [zeroDir, aDir] [aNode0, aNode1] ([zeroDir, aDir].length + 1) (map0 [zeroDir, aDir].length) = some [0, 1] := e3
  rw [e4]
end Go.Proofs.YtkpbpnecmfadlaaGreatDoor
/-
  The lookups' law's look at a small tree: lives.
-/
set_option autoImplicit false
set_option relaxedAutoImplicit false
set_option linter.unusedVariables false
set_option linter.unusedSimpArgs false
namespace Go.Proofs.YtkpbpnecmfadlaaGreatDoor
open Go.Rows Go.RowKit Go.Shelf Go.Sort

theorem cell_new0 {W W1 : World} {cs : Array Value} {t : TypeId} (h : W1 = W.alloc (.cells cs t)) {n : Nat} (hn : n = W.heap.size) {j : Nat} {v : Value} (hv : cs[j]? = some v) : W1.cell? ⟨n, j, none⟩ = some v := by
  subst h; subst hn
  exact (World.cell?_alloc_new W cs t j).trans hv
theorem lives13_mem (w : World) (t1 t2 t3 t4 t5 t6 t7 : TypeId) : ∃ W, W = (((((((w.alloc (.cells #[.int .i64 1, .int .i64 0, .int .i64 0] t1)).alloc (.cells #[.string ⟨#[97]⟩] t2)).alloc
      (.cells #[.slice none 0 0, .string ⟨#[]⟩, .int .i64 0, .int .i64 0, .int .i64 0, .slice none 0 0, .slice none 0 0, .slice none 0 0, .int .i64 0, .slice (some ⟨w.heap.size + 1, 0, none⟩) 1 1, .string ⟨#[97]⟩, .int .i64 1, .int .i64 0, .int .i64 0, .slice none 0 0, .slice none 0 0, .slice none 0 0, .int .i64 1] t3)).alloc
      (.cells #[.slice (some ⟨w.heap.size + 1 + 1, 0, none⟩) 2 2] t4)).alloc (.cells #[.string ⟨#[97]⟩, .int .i64 1] t5)).alloc
      (.cells #[.string ⟨#[]⟩, .int .i64 0, .int .i64 0, .int .i64 0, .slice none 0 0, .slice (some ⟨w.heap.size + 1 + 1 + 1 + 1, 0, none⟩) 1 1, .string ⟨#[97]⟩, .int .i64 1, .int .i64 0, .int .i64 0, .slice none 0 0, .slice none 0 0] t6)).alloc
      (.cells #[.slice (some ⟨w.heap.size + 1 + 1 + 1 + 1 + 1, 0, none⟩) 2 2] t7)) ∧ W.heap.size = w.heap.size + 1 + 1 + 1 + 1 + 1 + 1 + 1 ∧ Below w.heap.size w W ∧
      SlV rDir W (fun _ => True) [zeroDir, aDir] (.slice (some ⟨w.heap.size + 1 + 1, 0, none⟩) 2 2) ∧ SlV rNode W (fun _ => True) [aNode0, aNode1] (.slice (some ⟨w.heap.size + 1 + 1 + 1 + 1 + 1, 0, none⟩) 2 2) ∧
      W.cell? ⟨w.heap.size + 1 + 1 + 1, 0, none⟩ = some (.slice (some ⟨w.heap.size + 1 + 1, 0, none⟩) 2 2) := by
  refine ⟨_, rfl, ?_⟩
  obtain ⟨W1, h1⟩ : ∃ W1, W1 = w.alloc (.cells #[.int .i64 1, .int .i64 0, .int .i64 0] t1) := ⟨_, rfl⟩
  rw [← h1]
  have s1 : W1.heap.size = w.heap.size + 1 := by rw [h1, size_alloc]
  have B1 : Below w.heap.size w W1 := by rw [h1]; exact bal (Below.refl _ _) _
  obtain ⟨W2, h2⟩ : ∃ W2, W2 = W1.alloc (.cells #[.string ⟨#[97]⟩] t2) := ⟨_, rfl⟩
  rw [← h2]
  have s2 : W2.heap.size = w.heap.size + 1 + 1 := by rw [h2, size_alloc, s1]
  have B2 : Below w.heap.size w W2 := by rw [h2]; exact bal B1 _
  have hS : SlV rStr W2 (fun _ => True) [aB] (.slice (some ⟨w.heap.size + 1, 0, none⟩) 1 1) := by
    rw [← s1, h2]
    exact SlV.of_block (heap_new _ _) (Elems.one_ (r := rStr) (x := aB) (cs := [.string ⟨#[97]⟩]) ⟨rfl, by decide⟩) trivial rfl (by decide) (by decide)
  obtain ⟨W3, h3⟩ : ∃ W3, W3 = W2.alloc (.cells #[.slice none 0 0, .string ⟨#[]⟩, .int .i64 0, .int .i64 0, .int .i64 0, .slice none 0 0, .slice none 0 0, .slice none 0 0, .int .i64 0, .slice (some ⟨w.heap.size + 1, 0, none⟩) 1 1, .string ⟨#[97]⟩, .int .i64 1, .int .i64 0, .int .i64 0, .slice none 0 0, .slice none 0 0, .slice none 0 0, .int .i64 1] t3) := ⟨_, rfl⟩
  rw [← h3]
  have s3 : W3.heap.size = w.heap.size + 1 + 1 + 1 := by rw [h3, size_alloc, s2]
  have B3 : Below w.heap.size w W3 := by rw [h3]; exact bal B2 _
  have hD : SlV rDir W3 (fun _ => True) [zeroDir, aDir] (.slice (some ⟨w.heap.size + 1 + 1, 0, none⟩) 2 2) := by
    rw [h3, ← s2]
    refine SlV.of_block (heap_new _ _) ?_ trivial rfl (Nat.le_refl 2) (by decide)
    exact ⟨_, _, rfl, zero_holds _ _, _, [], rfl, aDir_holds _ _ _ (hS.alloc _), rfl⟩
  obtain ⟨W4, h4⟩ : ∃ W4, W4 = W3.alloc (.cells #[.slice (some ⟨w.heap.size + 1 + 1, 0, none⟩) 2 2] t4) := ⟨_, rfl⟩
  rw [← h4]
  have s4 : W4.heap.size = w.heap.size + 1 + 1 + 1 + 1 := by rw [h4, size_alloc, s3]
  have B4 : Below w.heap.size w W4 := by rw [h4]; exact bal B3 _
  have hD4 : SlV rDir W4 (fun _ => True) [zeroDir, aDir] (.slice (some ⟨w.heap.size + 1 + 1, 0, none⟩) 2 2) := by rw [h4]; exact hD.alloc _
  have c4 : W4.cell? ⟨w.heap.size + 1 + 1 + 1, 0, none⟩ = some (.slice (some ⟨w.heap.size + 1 + 1, 0, none⟩) 2 2) := cell_new0 h4 s3.symm rfl
  obtain ⟨W5, h5⟩ : ∃ W5, W5 = W4.alloc (.cells #[.string ⟨#[97]⟩, .int .i64 1] t5) := ⟨_, rfl⟩
  rw [← h5]
  have s5 : W5.heap.size = w.heap.size + 1 + 1 + 1 + 1 + 1 := by rw [h5, size_alloc, s4]
  have B5 : Below W4.heap.size W4 W5 := by rw [h5]; exact bal (Below.refl _ _) _
  have hE : SlV rEdge W5 (fun _ => True) [⟨aB, 1⟩] (.slice (some ⟨w.heap.size + 1 + 1 + 1 + 1, 0, none⟩) 1 1) := by
    rw [← s4, h5]
    exact SlV.of_block (heap_new _ _) (Elems.one_ (r := rEdge) (x := ⟨aB, 1⟩) (cs := [.string ⟨#[97]⟩, .int .i64 1]) ⟨rfl, by decide, by unfold I64; decide⟩) trivial rfl (by decide) (by decide)
  obtain ⟨W6, h6⟩ : ∃ W6, W6 = W5.alloc (.cells #[.string ⟨#[]⟩, .int .i64 0, .int .i64 0, .int .i64 0, .slice none 0 0, .slice (some ⟨w.heap.size + 1 + 1 + 1 + 1, 0, none⟩) 1 1, .string ⟨#[97]⟩, .int .i64 1, .int .i64 0, .int .i64 0, .slice none 0 0, .slice none 0 0] t6) := ⟨_, rfl⟩
  rw [← h6]
  have s6 : W6.heap.size = w.heap.size + 1 + 1 + 1 + 1 + 1 + 1 := by rw [h6, size_alloc, s5]
  have B6 : Below W4.heap.size W4 W6 := by rw [h6]; exact bal B5 _
  have hN : SlV rNode W6 (fun _ => True) [aNode0, aNode1] (.slice (some ⟨w.heap.size + 1 + 1 + 1 + 1 + 1, 0, none⟩) 2 2) := by
    rw [h6, ← s5]
    refine SlV.of_block (heap_new _ _) ?_ trivial rfl (Nat.le_refl 2) (by decide)
    refine ⟨[_, _, _, _, _, _], _, rfl, ?_, [_, _, _, _, _, _], [], rfl, ?_, rfl⟩
    · exact ⟨.slice none 0 0, _, rfl, Nat.zero_le _, by unfold I64; decide, by unfold I64; decide, by unfold I64; decide, SlV.nil_ _ _ _, hE.alloc _⟩
    · exact ⟨.slice none 0 0, .slice none 0 0, rfl, by decide, by unfold I64; decide, by unfold I64; decide, by unfold I64; decide, SlV.nil_ _ _ _, SlV.nil_ _ _ _⟩
  obtain ⟨W7, h7⟩ : ∃ W7, W7 = W6.alloc (.cells #[.slice (some ⟨w.heap.size + 1 + 1 + 1 + 1 + 1, 0, none⟩) 2 2] t7) := ⟨_, rfl⟩
  rw [← h7]
  have B7 : Below W4.heap.size W4 W7 := by rw [h7]; exact bal B6 _
  refine ⟨by rw [h7, size_alloc, s6], bot B4 B7, hD4.belowSize B7, by rw [h7]; exact hN.alloc _, below_cell B7 c4 (by omega)⟩

set_option maxHeartbeats 3200000 in
set_option maxRecDepth 100000 in
theorem lives13_any (w : World) (ht : Tab w) : Calls Tryz.prog 7 #[] w fun e w' => e = .returned (.bool true) ∧ Below w.heap.size w w' := by
  have Ht := Lib.hid ht; clear ht
  go_enter Tryz.func7, Tryz.ntmps7
  go_wp2_with fail
  obtain ⟨W0, hW, hs, hb, hd, hn, c0⟩ := lives13_mem w 58 9 63 66 68 72 75
  rw [← hW]
  have Hs := Lib.hid hs
  have hz : w.heap.size + 1 + 1 + 1 < W0.heap.size := by omega
  have HB := Lib.hid hb
  have HD := Lib.hid hd
  have HN := Lib.hid hn
  clear hs hb hd hn hW
  have hlen : ∀ d ∈ [zeroDir, aDir], d.path.length * 32 ≤ 140737488355328 := by intro d hd; simp at hd; rcases hd with rfl | rfl <;> decide
  generalize w.heap.size + 1 + 1 + 1 + 1 + 1 = gN at *
  generalize w.heap.size + 1 + 1 + 1 = gT at *
  generalize w.heap.size + 1 + 1 = gD at *
  have Hmp := map_any _ _ _ _ _ _ _ _ W0 _ _ (tab_below Ht.out HB.out) hlen HD.out HN.out
  rw [map_small] at Hmp
  have Hl1 : Hid (∀ W, Below W0.heap.size W0 W → Calls Tryz.prog 24 #[.agg #[.slice (some ⟨gD, 0, none⟩) 2 2], .int .i64 1, .string ⟨#[97]⟩] W fun e w' => e = .returned (.int .i64 1) ∧ Below W.heap.size W w') := fun W hW => by
    have := look_any _ _ _ _ aB W _ 1 (by decide) hlen (HD.out.belowSize hW)
    rwa [look_1a] at this
  have Hl2 : Hid (∀ W, Below W0.heap.size W0 W → Calls Tryz.prog 24 #[.agg #[.slice (some ⟨gD, 0, none⟩) 2 2], .int .i64 0, .string ⟨#[98]⟩] W fun e w' => e = .returned (.int .i64 (-1)) ∧ Below W.heap.size W w') := fun W hW => by
    have := look_any _ _ _ _ ⟨#[98]⟩ W _ 0 (by decide) hlen (HD.out.belowSize hW)
    rwa [look_0b] at this
  refine Hmp.mono ?_
  rintro e w1 ⟨⟨v, rfl, hv⟩, B1⟩
  obtain ⟨vA, vc, rfl, _, _⟩ := hv.val
  obtain ⟨b, o, cs, rfl, _, hb1, ⟨rfl, _⟩, hcell⟩ := hv.elem (i := 1) (x := 1) rfl
  have c1 := hcell 0 _ rfl
  simp only [rInt, Nat.add_zero, Nat.mul_one] at c1
  have e0 := below_cell B1 c0 hz
  have Q1 := Lib.hid B1
  clear hcell hv B1 Hmp c0
  have e0' := e0
  go_wp2_with fail
  refine (Hl1.out w1 Q1.out).mono ?_
  rintro e w2 ⟨rfl, B2⟩
  have e0 := below_cell B2 e0' (Nat.lt_of_lt_of_le hz Q1.out.size)
  have c2 := below_cell B2 c1 hb1
  have Q2 := Lib.hid (bot Q1.out B2)
  have hb2 := Nat.lt_of_lt_of_le hb1 B2.size
  clear B2 e0' c1
  go_wp2_with fail
  refine (Hl2.out w2 Q2.out).mono ?_
  rintro e w3 ⟨rfl, B3⟩
  have c3 := below_cell B3 c2 hb2
  have Q3 := Lib.hid (bot Q2.out B3)
  clear B3 c2 e0
  go_wp2_with fail
  go_ret
  exact ⟨rfl, bot HB.out Q3.out⟩
end Go.Proofs.YtkpbpnecmfadlaaGreatDoor
