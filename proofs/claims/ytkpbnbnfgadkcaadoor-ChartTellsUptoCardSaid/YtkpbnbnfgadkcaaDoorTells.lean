/-
  The statement's law ChartTells: a drawing's frame, weight and text are as the document says: it answers true, and what was there stays.
-/
import Derived.Test.YtkpbnbnfgadkcaaDoorTellsC
import Derived.Test.YtkpbnbnfgadkcaaDoorTellsD
import Derived.Test.YtkpbnbnfgadkcaaDoorMovesA
import Derived.Laws.StructEq
set_option autoImplicit false
set_option relaxedAutoImplicit false
set_option linter.unusedVariables false
set_option linter.unusedSimpArgs false
namespace Go.Proofs.YtkpbnbnfgadkcaaDoor
open Go.Rows Go.RowKit Go.Shelf Go.Sort

theorem boxR_agg (l : List Spot) : ∃ a b c d : Int, boxR l = .agg #[.int .i64 a, .int .i64 b, .int .i64 c, .int .i64 d] := by
  unfold boxR zeroV boxV
  split
  · exact ⟨_, _, _, _, rfl⟩
  · exact ⟨_, _, _, _, rfl⟩
theorem tellV_parts (r : Option ByteArray) : ∃ (s : ByteArray) (k : Int), tellV r = .returned (.tuple #[.string s, .int .i64 k]) := ⟨_, _, rfl⟩

theorem equalIn_arr4 (d : Nat) (w : World) (a b c e : Int) (he : ∀ (x : Int) (w : World), (Op.equalIn d 3 (.int .i64 x) (.int .i64 x)).run Tryd.prog w = .ok true w) :
    (Op.equalIn (d + 1) 30 (.agg #[.int .i64 a, .int .i64 b, .int .i64 c, .int .i64 e]) (.agg #[.int .i64 a, .int .i64 b, .int .i64 c, .int .i64 e])).run Tryd.prog w = .ok true w := by
  have h3 : ∀ w, (isAgg 3).run Tryd.prog w = .ok false w := fun _ => by kernel_rfl
  have hs : ∀ w, (sizeOf 3).run Tryd.prog w = .ok 1 w := fun _ => by kernel_rfl
  simp only [Op.equalIn, Sem.run_bind, run_underlying Tryd.underlying30, Result.andThen_ok, hs]
  simp [part, h3, he, List.range']
theorem run_eql_arr4 (w : World) (a b c d : Int) : (binOp .eql 30 (.agg #[.int .i64 a, .int .i64 b, .int .i64 c, .int .i64 d]) (.agg #[.int .i64 a, .int .i64 b, .int .i64 c, .int .i64 d])).run Tryd.prog w = .ok (.bool true) w := by
  rw [run_eql_struct]
  rw [show (10000 : Nat) = 9999 + 1 from rfl, equalIn_arr4 _ _ _ _ _ _ (fun x w => by
    rw [show (9999 : Nat) = 9998 + 1 from rfl, run_equalIn_int (k' := .i64) (h := Tryd.underlying3)]; simp)]
  rfl

theorem F4.below {w w' : World} {B : Nat} {a b c d : Int} (h : F4 w B a b c d) (hb : Below w.heap.size w w') (hB : B < w.heap.size) : F4 w' B a b c d := by
  obtain ⟨⟨d0, d1, d2, d3⟩, g0, g1, g2, g3⟩ := h
  have hh := hb.block B hB
  exact ⟨⟨(cell_same hh _ _).trans d0, (cell_same hh _ _).trans d1, (cell_same hh _ _).trans d2, (cell_same hh _ _).trans d3⟩, (frozen_same hh _ _).trans g0, (frozen_same hh _ _).trans g1, (frozen_same hh _ _).trans g2, (frozen_same hh _ _).trans g3⟩
def K4 (w : World) (B : Nat) (a b c d : Int) : Prop := F4 w B a b c d ∧ B < w.heap.size
theorem K4.below {w w' : World} {B : Nat} {a b c d : Int} (h : K4 w B a b c d) (hb : Below w.heap.size w w') : K4 w' B a b c d :=
  ⟨h.1.below hb h.2, Nat.lt_of_lt_of_le h.2 hb.size⟩
theorem K4.new (w : World) (t : TypeId) (a b c d : Int) : K4 (w.alloc (.cells #[.int .i64 a, .int .i64 b, .int .i64 c, .int .i64 d] t)) w.heap.size a b c d := by
  refine ⟨⟨⟨?_, ?_, ?_, ?_⟩, ?_, ?_, ?_, ?_⟩, ?_⟩ <;> simp [go_sem]

set_option maxHeartbeats 1000000 in
set_option maxRecDepth 100000 in
theorem tells_any (A : Option Addr) (n c : Nat) (l : List Spot) (w : World) (S : Nat → Prop) (hreach : l.length * 40 ≤ 140737488351232) (hlen : ∀ s ∈ l, s.path.length ≤ 1048576)
    (ht : ∀ W, Below w.heap.size w W → Tab W) (hl : SlV rSpot w S l (.slice A n c)) :
    Calls Tryd.prog 3 #[.slice A n c] w fun e w' => e = .returned (.bool true) ∧ Below w.heap.size w w' := by
  have hnx := hl.n_eq
  have hn63 : n ≤ 9223372036854775807 := by omega
  have hl63 : l.length ≤ 9223372036854775807 := by omega
  clear hnx
  have Hl : Hid (∀ W, Below w.heap.size w W → SlV rSpot W (fun b => b < w.heap.size) l (.slice A n c)) := fun W hW => (hl.more (fun b _ h => h)).below hW (fun b h => h)
  clear hl
  obtain ⟨ba, bb, bc, bd, hbx⟩ := boxR_agg l
  obtain ⟨ts, tk, htl⟩ := tellV_parts (tellR l)
  have Hg : Hid (∀ W, Below w.heap.size w W → Calls Tryd.prog 5 #[.slice A n c] W fun e w' => ∃ v, e = .returned v ∧ SlV rSpot w' (fun b => b < w.heap.size ∨ W.heap.size ≤ b) l v ∧ Below W.heap.size W w') := fun W hW => given_any A n c l W _ hreach (Hl.out W hW)
  have Hk : Hid (∀ W, Calls Tryd.prog 11 #[] W fun e w' => e = .returned (.bool true) ∧ Below W.heap.size W w') := fun W => known_any W
  have HB : Hid (∀ (W : World) (S : Nat → Prop) (A : Option Addr) (c : Nat), SlV rSpot W S l (.slice A l.length c) → Calls Tryd.prog 4 #[.slice A l.length c] W fun e w' => e = .returned (.tuple #[.agg #[.int .i64 ba, .int .i64 bb, .int .i64 bc, .int .i64 bd], .int .i64 (boxErr l)]) ∧ Below W.heap.size W w') :=
    fun W S A c h => by rw [← hbx]; exact chBox_any A _ c l W S hl63 h
  have HB' : Hid (∀ (W : World), Below w.heap.size w W → Calls Tryd.prog 6 #[.slice A n c] W fun e w' => e = .returned (.tuple #[.agg #[.int .i64 ba, .int .i64 bb, .int .i64 bc, .int .i64 bd], .int .i64 (boxErr l)]) ∧ Below W.heap.size W w') :=
    fun W hW => by rw [← hbx]; exact refBox_any A n c l W _ hn63 (Hl.out W hW)
  have HW : Hid (∀ (W : World) (S : Nat → Prop) (A : Option Addr) (c : Nat), SlV rSpot W S l (.slice A l.length c) → Calls Tryd.prog 7 #[.slice A l.length c] W fun e w' => e = .returned (.tuple #[.int .i64 (weightOf l).1, .int .i64 (weightOf l).2, .int .i64 (weightErr l)]) ∧ Below W.heap.size W w') :=
    fun W S A c h => weight_any A _ c l W S hl63 h
  have HW' : Hid (∀ (W : World), Below w.heap.size w W → Calls Tryd.prog 8 #[.slice A n c] W fun e w' => e = .returned (.tuple #[.int .i64 (weightOf l).1, .int .i64 (weightOf l).2, .int .i64 (weightErr l)]) ∧ W = w') :=
    fun W hW => refWeight_any A n c l W _ hn63 (Hl.out W hW)
  have HT : Hid (∀ (W : World) (S : Nat → Prop) (A : Option Addr) (c : Nat), Below w.heap.size w W → SlV rSpot W S l (.slice A l.length c) → Calls Tryd.prog 9 #[.slice A l.length c] W fun e w' => e = .returned (.tuple #[.string ts, .int .i64 tk]) ∧ Below W.heap.size W w') :=
    fun W S A c hW h => by rw [← htl]; exact chText_any A _ c l W S hl63 hlen (fun W' hW' => ht W' (hW.trans (hW'.mono hW.size))) h
  have HT' : Hid (∀ (W : World), Below w.heap.size w W → Calls Tryd.prog 10 #[.slice A n c] W fun e w' => e = .returned (.tuple #[.string ts, .int .i64 tk]) ∧ Below W.heap.size W w') :=
    fun W hW => by rw [← htl]; exact refTell_any A n c l W _ hn63 hlen (Hl.out W hW)
  clear hbx htl ht hlen hreach Hl
  generalize boxErr l = be at *
  generalize (weightOf l).1 = wx at *
  generalize (weightOf l).2 = wy at *
  generalize weightErr l = we at *
  have B0 := Below.refl w.heap.size w
  go_enter Tryd.func3, Tryd.ntmps3
  go_wp2_with fail
  refine (Hg.out _ B0).mono ?_
  rintro e w1 ⟨v1, rfl, hv1, hb1⟩
  obtain ⟨A1, c1, rfl, _, _⟩ := hv1.val
  have B1 := B0.trans (hb1.mono (Nat.le_refl _)); clear hb1 B0
  have Hv := Lib.hid hv1; clear hv1
  go_wp2_with fail
  refine (HB.out _ _ _ _ Hv.out).mono ?_
  rintro e w2 ⟨rfl, hb2⟩
  have B2 := B1.trans (hb2.mono B1.size); clear hb2 B1 Hv
  go_wp2_with fail
  refine (HB'.out _ (B2.alloc B2.size _)).mono ?_
  rintro e w3 ⟨rfl, hb3⟩
  have K3 := Lib.hid ((K4.new w2 _ ba bb bc bd).below hb3)
  have B3 := (B2.alloc B2.size _).trans (hb3.mono (Nat.le_trans B2.size (by simp))); clear hb3 B2
  go_wp2_with fail
  refine (Hg.out _ (B3.alloc B3.size _)).mono ?_
  rintro e w4 ⟨v1, rfl, hv1, hb4⟩
  obtain ⟨A1, c1, rfl, _, _⟩ := hv1.val
  have K4b := Lib.hid ((K4.new w3 _ ba bb bc bd).below hb4)
  have K4a := Lib.hid ((K3.out.below ((Below.refl _ _).alloc (Nat.le_refl _) _)).below hb4)
  have B4 := (B3.alloc B3.size _).trans (hb4.mono (Nat.le_trans B3.size (by simp))); clear hb4 B3 K3
  have Hv := Lib.hid hv1; clear hv1
  go_wp2_with fail
  refine (HW.out _ _ _ _ Hv.out).mono ?_
  rintro e w5 ⟨rfl, hb5⟩
  have K5a := Lib.hid (K4a.out.below hb5)
  have K5b := Lib.hid (K4b.out.below hb5)
  have B5 := B4.trans (hb5.mono B4.size); clear hb5 B4 Hv K4a K4b
  go_wp2_with fail
  refine (HW'.out _ B5).mono ?_
  rintro e w6 ⟨rfl, rfl⟩
  go_wp2_with fail
  refine (Hg.out _ B5).mono ?_
  rintro e w7 ⟨v1, rfl, hv1, hb7⟩
  obtain ⟨A1, c1, rfl, _, _⟩ := hv1.val
  have K7a := Lib.hid (K5a.out.below hb7)
  have K7b := Lib.hid (K5b.out.below hb7)
  have B7 := B5.trans (hb7.mono B5.size); clear hb7 B5 K5a K5b
  have Hv := Lib.hid hv1; clear hv1
  go_wp2_with fail
  refine (HT.out _ _ _ _ B7 Hv.out).mono ?_
  rintro e w8 ⟨rfl, hb8⟩
  have K8a := Lib.hid (K7a.out.below hb8)
  have K8b := Lib.hid (K7b.out.below hb8)
  have B8 := B7.trans (hb8.mono B7.size); clear hb8 B7 Hv K7a K7b
  go_wp2_with fail
  refine (HT'.out _ B8).mono ?_
  rintro e w9 ⟨rfl, hb9⟩
  obtain ⟨⟨⟨a0, a1, a2, a3⟩, _⟩, _⟩ := K8a.out.below hb9
  obtain ⟨⟨⟨b0, b1, b2, b3⟩, _⟩, _⟩ := K8b.out.below hb9
  have B9 := B8.trans (hb9.mono B8.size); clear hb9 B8 K8a K8b
  have heq := fun W => run_eql_arr4 W ba bb bc bd
  have Hk9 := Lib.hid (Hk.out w9)
  go_wp2_with fail
  refine Hk9.out.mono ?_
  rintro e w10 ⟨rfl, hb10⟩
  go_wp2_with fail
  go_ret
  exact ⟨rfl, B9.trans (hb10.mono B9.size)⟩
end Go.Proofs.YtkpbnbnfgadkcaaDoor
