/-
  A path with a name more: the program's.
-/
import Derived.Test.YtkpbpnecmfadlaaGreatDoorSpanR
import Derived.Test.YtkpbpnecmfadlaaGreatDoorSpanM
import Derived.Test.YtkpbpnecmfadlaaGreatDoorFind
set_option autoImplicit false
set_option relaxedAutoImplicit false
set_option linter.unusedVariables false
set_option linter.unusedSimpArgs false
namespace Go.Proofs.YtkpbpnecmfadlaaGreatDoor
open Go.Rows Go.RowKit Go.Shelf Go.Sort

set_option maxHeartbeats 1600000 in
set_option maxRecDepth 100000 in
theorem joined_any (A : Option Addr) (n c : Nat) (l : List ByteArray) (s : ByteArray) (w : World) (S : Nat → Prop) (hs : s.size ≤ maxLen) (hlen : l.length * 32 ≤ 140737488355328) (hl : SlV rStr w S l (.slice A n c)) :
    Calls Tryz.prog 22 #[.slice A n c, .string s] w fun e w' => ∃ v, e = .returned v ∧ SlV rStr w' (fun _ => True) (l ++ [s]) v ∧ Below w.heap.size w w' := by
  have hm : maxLen = 9223372036854775807 := rfl
  have hnx := hl.n_eq
  have hn63 : n ≤ 9223372036854775807 := by omega
  obtain ⟨i, z, hi, hz, hsz, hby, hzs, hpos⟩ := elt_string
  have hHS := Lib.hid hs; clear hs
  have hnb : n ≤ 4398046511104 := by omega
  have Hnx := Lib.hid hnx; clear hnx
  go_enter Tryz.func22, Tryz.ntmps22
  go_wp2_with (at_make; refine wpList_make_own w (by rfl) _ _ _ (by rfl) w.heap.size 9 i z 1 Tryz.underlying52 hi hz hsz _ _ _ (n + 1) (by rfl) (by rfl) (by omega) (by rw [hby]; have := Hnx.out; omega) (by have := Hnx.out; omega) (Nat.le_refl _) ?_)
  intro w1 hown1 hgrow
  have HB1 : Hid (Below w.heap.size w w1) := (Below.refl _ _).grown hgrow (Nat.le_refl _) (fun k hk => by cases hk)
  have Hown1 : Hid (Own rStr w1 w.heap.size 9 (.slice (some ⟨w.heap.size, 0, none⟩) 0 (n + 1)) [] (fun _ => False)) := ⟨fun b hb => hb.elim, [], hown1, rfl⟩
  have Hl1 : Hid (SlV rStr w1 (fun b => b < w.heap.size) l (.slice A n c)) := (hl.more (S' := fun b => b < w.heap.size) fun b h1 h2 => h2).belowSize HB1.out
  have hw1 := HB1.out.size
  clear hown1 hgrow hl
  go_wp2_with (at_builtin; refine wpList_extend (by rfl) _ _ _ (by rfl) elt_string Tryz.underlying52 (by rfl) Hown1.out (fun b => b < w.heap.size) l _ _ _ (by rfl) Hl1.out (by intro b hb he; simp [Value.ownBlock] at he; omega) (by simp [maxLen]; omega) (by simp; omega) hw1 ?_)
  intro v2 w2 hown2 hgrow2 hat2
  have HB2 : Hid (Below w.heap.size w w2) := bgrown HB1.out hgrow2 Hown1.out (Nat.le_refl _)
  have Hown2 : Hid (Own rStr w2 w.heap.size 9 v2 l (fun b => b < w.heap.size ∧ b < w1.heap.size)) := hown2
  have hw2 := HB2.out.size
  have Hlen : Hid (l.length = n) := Hnx.out.symm
  clear hown2 hgrow2 hat2 Hown1 Hl1 hlen
  go_wp2_with (at_builtin; refine wpList_push (by rfl) _ _ _ (by rfl) elt_string Tryz.underlying52 (by rfl) (Hown2.out.alloc _) ⟨w2.heap.size, 0, none⟩ 1 [.string s] s (by rfl) ⟨rfl, hHS.out⟩ (news_of w2 #[.string s] _) (by rw [Hlen.out]; unfold maxLen; omega) (by rw [Hlen.out]; omega) (by simp; omega) (w2.heap.size + 1) (by simp) ?_)
  intro g9 cap9 w9 hown9 hgrow9 hat9 hlt9
  have HB9 := Lib.hid (bgrown (bal HB2.out _) hgrow9 (Hown2.out.alloc _) (Nat.le_refl _))
  have Hown9 := Lib.hid hown9
  clear hown9 hgrow9
  go_wp2_with fail
  go_ret
  exact ⟨_, rfl, Hown9.out.slv.more (fun b _ _ => trivial), HB9.out⟩
end Go.Proofs.YtkpbpnecmfadlaaGreatDoor
/-
  A path with a name more: the document's.
-/
set_option autoImplicit false
set_option relaxedAutoImplicit false
set_option linter.unusedVariables false
set_option linter.unusedSimpArgs false
namespace Go.Proofs.YtkpbpnecmfadlaaGreatDoor
open Go.Rows Go.RowKit Go.Shelf Go.Sort

set_option maxHeartbeats 1600000 in
set_option maxRecDepth 100000 in
theorem refJoined_any (A : Option Addr) (n c : Nat) (l : List ByteArray) (s : ByteArray) (w : World) (S : Nat → Prop) (hs : s.size ≤ maxLen) (hlen : l.length * 32 ≤ 140737488355328) (hl : SlV rStr w S l (.slice A n c)) :
    Calls Tryz.prog 28 #[.slice A n c, .string s] w fun e w' => ∃ v, e = .returned v ∧ SlV rStr w' (fun _ => True) (l ++ [s]) v ∧ Below w.heap.size w w' := by
  have hm : maxLen = 9223372036854775807 := rfl
  have HS := Lib.hid hs; clear hs
  have HL := Lib.hid hlen
  go_enter Tryz.func28, Tryz.ntmps28
  go_wp2_with (at_builtin; refine wpList_extend (by rfl) _ _ _ (by rfl) elt_string Tryz.underlying52 (by rfl) (Own.nil_ rStr w w.heap.size 9 (S := fun _ => False) (fun b h => h.elim)) (fun b => b < w.heap.size) l _ _ _ (by rfl) (hl.more fun b h1 h2 => h2) (by intro b hb he; simp [Value.ownBlock] at he) (by simp [maxLen]; omega) (by simp; omega) (by simp) ?_)
  intro v1 w1 hown1 hgrow hat
  have HB1 : Hid (Below w.heap.size w w1) := (Below.refl _ _).grown hgrow (Nat.le_refl _) (fun k hk => by simp [Value.ownBlock] at hk)
  have Hown1 : Hid (Own rStr w1 w.heap.size 9 v1 l (fun b => b < w.heap.size)) := hown1
  have hw1 := HB1.out.size
  clear hown1 hgrow hat hl
  obtain ⟨k, hk⟩ : ∃ k : Nat, l.length = k := ⟨_, rfl⟩
  have Hlen : Hid (l.length = k) := hk
  rw [hk] at hlen
  clear hk
  go_wp2_with (at_builtin; refine wpList_push (by rfl) _ _ _ (by rfl) elt_string Tryz.underlying52 (by rfl) (Hown1.out.alloc _) ⟨w1.heap.size, 0, none⟩ 1 [.string s] s (by rfl) ⟨rfl, HS.out⟩ (news_of w1 #[.string s] _) (by rw [Hlen.out]; unfold maxLen; omega) (by rw [Hlen.out]; omega) (by simp; omega) (w1.heap.size + 1) (by simp) ?_)
  intro g9 cap9 w9 hown9 hgrow9 hat9 hlt9
  have HB9 := Lib.hid (bgrown (bal HB1.out _) hgrow9 (Hown1.out.alloc _) (Nat.le_refl _))
  have Hown9 := Lib.hid hown9
  clear hown9 hgrow9
  go_wp2_with fail
  go_ret
  exact ⟨_, rfl, Hown9.out.slv.more (fun b _ _ => trivial), HB9.out⟩

end Go.Proofs.YtkpbpnecmfadlaaGreatDoor
