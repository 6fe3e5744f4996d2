/-
  halyardlaw03.SpanFolds, walked.
-/
import Derived.Test.YtghihopmiagcpaaGreatDoorOver
set_option autoImplicit false
set_option relaxedAutoImplicit false
set_option linter.unusedVariables false
set_option linter.unusedSimpArgs false
namespace Go.Proofs.YtghihopmiagcpaaGreatDoor
open Go.Rows Go.RowKit Go.Shelf Go.Sort

set_option maxHeartbeats 4000000 in
set_option maxRecDepth 100000 in
theorem spanFolds_law (A0 : Option Addr) (n0 c0 : Nat) (a : List Spn) (A1 : Option Addr) (n1 c1 : Nat) (b : List Spn) (w : World) (hv : Vok w) (ha : SlV rSpn w (fun b => b < w.heap.size) a (.slice A0 n0 c0)) (hla : a.length * 9 ≤ 1048576) (hb : SlV rSpn w (fun b => b < w.heap.size) b (.slice A1 n1 c1)) (hlb : b.length * 9 ≤ 1048576) :
    Calls Tryz.prog 8 #[.slice A0 n0 c0, .slice A1 n1 c1] w fun e w' => e = .returned (.bool true) ∧ Below w.heap.size w w' := by
  have Hv := Lib.hid hv
  have G_a := Lib.hid ha
  have G_b := Lib.hid hb
  clear ha hb hla hlb hv
  obtain ⟨qm, h_qm⟩ : ∃ q, q = foldQ 109 a b := ⟨_, rfl⟩
  have C_m : Hid (∀ W A n k1 B m k2 S T, SlV rSpn W S a (.slice A n k1) → SlV rSpn W T b (.slice B m k2) → Calls Tryz.prog 26 #[.slice A n k1, .slice B m k2] W (Made W qm)) := fun W A n k1 B m k2 S T hx hy => by rw [h_qm]; exact meet_any A B n m k1 k2 _ _ W S T hx hy
  have R_m : Hid (∀ W A n k1 B m k2 S T, SlV rSpn W S a (.slice A n k1) → SlV rSpn W T b (.slice B m k2) → Calls Tryz.prog 27 #[.slice A n k1, .slice B m k2] W fun e w' => ∃ v, e = .returned (.tuple #[v, .int .i64 qm.2]) ∧ SlV rSpn w' (fun b => W.heap.size ≤ b) qm.1 v ∧ Below W.heap.size W w') := fun W A n k1 B m k2 S T hx hy => by rw [h_qm]; exact refMeet_any A B n m k1 k2 _ _ W S T hx hy
  clear h_qm
  obtain ⟨qj, h_qj⟩ : ∃ q, q = foldQ 106 a b := ⟨_, rfl⟩
  have C_j : Hid (∀ W A n k1 B m k2 S T, SlV rSpn W S a (.slice A n k1) → SlV rSpn W T b (.slice B m k2) → Calls Tryz.prog 25 #[.slice A n k1, .slice B m k2] W (Made W qj)) := fun W A n k1 B m k2 S T hx hy => by rw [h_qj]; exact join2_any A B n m k1 k2 _ _ W S T hx hy
  have R_j : Hid (∀ W A n k1 B m k2 S T, SlV rSpn W S a (.slice A n k1) → SlV rSpn W T b (.slice B m k2) → Calls Tryz.prog 28 #[.slice A n k1, .slice B m k2] W fun e w' => ∃ v, e = .returned (.tuple #[v, .int .i64 qj.2]) ∧ SlV rSpn w' (fun b => W.heap.size ≤ b) qj.1 v ∧ Below W.heap.size W w') := fun W A n k1 B m k2 S T hx hy => by rw [h_qj]; exact refJoin_any A B n m k1 k2 _ _ W S T hx hy
  clear h_qj
  obtain ⟨qk, h_qk⟩ : ∃ q, q = foldQ 99 a b := ⟨_, rfl⟩
  have C_k : Hid (∀ W A n k1 B m k2 S T, SlV rSpn W S a (.slice A n k1) → SlV rSpn W T b (.slice B m k2) → Calls Tryz.prog 29 #[.slice A n k1, .slice B m k2] W (Made W qk)) := fun W A n k1 B m k2 S T hx hy => by rw [h_qk]; exact cut_any A B n m k1 k2 _ _ W S T hx hy
  have R_k : Hid (∀ W A n k1 B m k2 S T, SlV rSpn W S a (.slice A n k1) → SlV rSpn W T b (.slice B m k2) → Calls Tryz.prog 30 #[.slice A n k1, .slice B m k2] W fun e w' => ∃ v, e = .returned (.tuple #[v, .int .i64 qk.2]) ∧ SlV rSpn w' (fun b => W.heap.size ≤ b) qk.1 v ∧ Below W.heap.size W w') := fun W A n k1 B m k2 S T hx hy => by rw [h_qk]; exact refCut_any A B n m k1 k2 _ _ W S T hx hy
  clear h_qk
  have CS : Hid (∀ W A n k1 B m k2 S T l, SlV rSpn W S l (.slice A n k1) → SlV rSpn W T l (.slice B m k2) → Calls Tryz.prog 19 #[.slice A n k1, .slice B m k2] W fun e w' => e = .returned (.bool true) ∧ Below W.heap.size W w') := fun W A n k1 B m k2 S T l h1 h2 => same_yes A B n m k1 k2 l W S T h1 h2
  go_enter Tryz.func8, Tryz.ntmps8
  go_wp2_with fail
  go_loopw [5] (fun i wr => ∃ k : Nat, k ≤ 2 ∧ i = .int .i64 k ∧ Hid (Below w.heap.size w wr)) (fun i _ => 2 - (intOf i).toNat)
  case atStart => exact ⟨0, Nat.zero_le _, rfl, Below.refl _ _⟩
  case round =>
    obtain ⟨k, hk, rfl, HB0⟩ := hrel
    by_cases hlt : k < 2
    case neg =>
      have hkI : ¬ (k : Int) < 2 := by omega
      go_wp2_with fail
      refine (known_any _ (Hv.out.below HB0.out)).mono ?_
      rintro e w1 ⟨rfl, hb1⟩
      go_wp2_with fail
      go_ret
      exact ⟨rfl, bot HB0.out hb1⟩
    have hkI : (k : Int) < 2 := by omega
    have H_a := Lib.hid (G_a.out.below HB0.out (fun b h => h))
    have H_b := Lib.hid (G_b.out.below HB0.out (fun b h => h))
    go_wp2_with fail
    refine (C_m.out _ _ _ _ _ _ _ _ _ H_a.out H_b.out).mono ?_
    rintro e w1 ⟨v1, rfl, ho1, hb1⟩
    have hz1 := hb1.size
    have hs1 := ho1.slvB
    obtain ⟨A_m, c_m, rfl, _, _⟩ := hs1.val
    obtain ⟨n_m, hn1⟩ : ∃ n, n = qm.1.length := ⟨_, rfl⟩
    rw [← hn1] at hs1 ho1 ⊢
    clear hn1
    have Z_m : Hid ((∀ g, (Value.slice A_m n_m c_m).ownBlock = some g → wr.heap.size ≤ g ∧ g < w1.heap.size) ∧ w.heap.size ≤ wr.heap.size ∧ wr.heap.size ≤ w1.heap.size) := ⟨fun g hg => ho1.lt g hg, HB0.out.size, hb1.size⟩
    have N := Lib.hid (H_a.out.belowSize hb1); clear H_a; have H_a := N; clear N
    have N := Lib.hid (H_b.out.belowSize hb1); clear H_b; have H_b := N; clear N
    have HB1 := Lib.hid (bot HB0.out hb1)
    clear HB0
    have H_x := Lib.hid hs1
    have O_m := Lib.hid ho1
    clear hs1 ho1 hb1
    go_wp2_with fail
    refine (R_m.out _ _ _ _ _ _ _ _ _ H_a.out H_b.out).mono ?_
    rintro e w2 ⟨v2, rfl, hs2, hb2⟩
    have hz2 := hb2.size
    obtain ⟨A2, c2, rfl, _, _⟩ := hs2.val
    obtain ⟨n2, hn2⟩ : ∃ n, n = qm.1.length := ⟨_, rfl⟩
    rw [← hn2] at hs2 ⊢
    clear hn2
    have N := Lib.hid (H_a.out.belowSize hb2); clear H_a; have H_a := N; clear N
    have N := Lib.hid (H_b.out.belowSize hb2); clear H_b; have H_b := N; clear N
    have N := Lib.hid (H_x.out.belowSize hb2); clear H_x; have H_x := N; clear N
    have N := Lib.hid (O_m.out.keep hb2); clear O_m; have O_m := N; clear N
    have HB2 := Lib.hid (bot HB1.out hb2)
    clear HB1
    have H_y := Lib.hid hs2
    clear hs2 hb2
    have t1 : (qm.2 != qm.2) = false := by simp
    have t2 : (qm.2 == qm.2) = true := by simp
    go_wp2_with fail
    refine (CS.out _ _ _ _ _ _ _ _ _ _ H_x.out H_y.out).mono ?_
    rintro e w3 ⟨rfl, hb3⟩
    have hz3 := hb3.size
    clear H_x H_y
    have N := Lib.hid (H_a.out.belowSize hb3); clear H_a; have H_a := N; clear N
    have N := Lib.hid (H_b.out.belowSize hb3); clear H_b; have H_b := N; clear N
    have N := Lib.hid (O_m.out.keep hb3); clear O_m; have O_m := N; clear N
    have HB3 := Lib.hid (bot HB2.out hb3)
    clear HB2
    clear hb3 t1 t2
    go_wp2_with fail
    refine (C_j.out _ _ _ _ _ _ _ _ _ H_a.out H_b.out).mono ?_
    rintro e w4 ⟨v4, rfl, ho4, hb4⟩
    have hz4 := hb4.size
    have hs4 := ho4.slvB
    obtain ⟨A_j, c_j, rfl, _, _⟩ := hs4.val
    obtain ⟨n_j, hn4⟩ : ∃ n, n = qj.1.length := ⟨_, rfl⟩
    rw [← hn4] at hs4 ho4 ⊢
    clear hn4
    have Z_j : Hid ((∀ g, (Value.slice A_j n_j c_j).ownBlock = some g → w3.heap.size ≤ g ∧ g < w4.heap.size) ∧ w.heap.size ≤ w3.heap.size ∧ w3.heap.size ≤ w4.heap.size) := ⟨fun g hg => ho4.lt g hg, HB3.out.size, hb4.size⟩
    have N := Lib.hid (H_a.out.belowSize hb4); clear H_a; have H_a := N; clear N
    have N := Lib.hid (H_b.out.belowSize hb4); clear H_b; have H_b := N; clear N
    have N := Lib.hid (O_m.out.keep hb4); clear O_m; have O_m := N; clear N
    have HB4 := Lib.hid (bot HB3.out hb4)
    clear HB3
    have H_x := Lib.hid hs4
    have O_j := Lib.hid ho4
    clear hs4 ho4 hb4
    go_wp2_with fail
    refine (R_j.out _ _ _ _ _ _ _ _ _ H_a.out H_b.out).mono ?_
    rintro e w5 ⟨v5, rfl, hs5, hb5⟩
    have hz5 := hb5.size
    obtain ⟨A5, c5, rfl, _, _⟩ := hs5.val
    obtain ⟨n5, hn5⟩ : ∃ n, n = qj.1.length := ⟨_, rfl⟩
    rw [← hn5] at hs5 ⊢
    clear hn5
    have N := Lib.hid (H_a.out.belowSize hb5); clear H_a; have H_a := N; clear N
    have N := Lib.hid (H_b.out.belowSize hb5); clear H_b; have H_b := N; clear N
    have N := Lib.hid (H_x.out.belowSize hb5); clear H_x; have H_x := N; clear N
    have N := Lib.hid (O_m.out.keep hb5); clear O_m; have O_m := N; clear N
    have N := Lib.hid (O_j.out.keep hb5); clear O_j; have O_j := N; clear N
    have HB5 := Lib.hid (bot HB4.out hb5)
    clear HB4
    have H_y := Lib.hid hs5
    clear hs5 hb5
    have t1 : (qj.2 != qj.2) = false := by simp
    have t2 : (qj.2 == qj.2) = true := by simp
    go_wp2_with fail
    refine (CS.out _ _ _ _ _ _ _ _ _ _ H_x.out H_y.out).mono ?_
    rintro e w6 ⟨rfl, hb6⟩
    have hz6 := hb6.size
    clear H_x H_y
    have N := Lib.hid (H_a.out.belowSize hb6); clear H_a; have H_a := N; clear N
    have N := Lib.hid (H_b.out.belowSize hb6); clear H_b; have H_b := N; clear N
    have N := Lib.hid (O_m.out.keep hb6); clear O_m; have O_m := N; clear N
    have N := Lib.hid (O_j.out.keep hb6); clear O_j; have O_j := N; clear N
    have HB6 := Lib.hid (bot HB5.out hb6)
    clear HB5
    clear hb6 t1 t2
    go_wp2_with fail
    refine (C_k.out _ _ _ _ _ _ _ _ _ H_a.out H_b.out).mono ?_
    rintro e w7 ⟨v7, rfl, ho7, hb7⟩
    have hz7 := hb7.size
    have hs7 := ho7.slvB
    obtain ⟨A_k, c_k, rfl, _, _⟩ := hs7.val
    obtain ⟨n_k, hn7⟩ : ∃ n, n = qk.1.length := ⟨_, rfl⟩
    rw [← hn7] at hs7 ho7 ⊢
    clear hn7
    have Z_k : Hid ((∀ g, (Value.slice A_k n_k c_k).ownBlock = some g → w6.heap.size ≤ g ∧ g < w7.heap.size) ∧ w.heap.size ≤ w6.heap.size ∧ w6.heap.size ≤ w7.heap.size) := ⟨fun g hg => ho7.lt g hg, HB6.out.size, hb7.size⟩
    have N := Lib.hid (H_a.out.belowSize hb7); clear H_a; have H_a := N; clear N
    have N := Lib.hid (H_b.out.belowSize hb7); clear H_b; have H_b := N; clear N
    have N := Lib.hid (O_m.out.keep hb7); clear O_m; have O_m := N; clear N
    have N := Lib.hid (O_j.out.keep hb7); clear O_j; have O_j := N; clear N
    have HB7 := Lib.hid (bot HB6.out hb7)
    clear HB6
    have H_x := Lib.hid hs7
    have O_k := Lib.hid ho7
    clear hs7 ho7 hb7
    go_wp2_with fail
    refine (R_k.out _ _ _ _ _ _ _ _ _ H_a.out H_b.out).mono ?_
    rintro e w8 ⟨v8, rfl, hs8, hb8⟩
    have hz8 := hb8.size
    obtain ⟨A8, c8, rfl, _, _⟩ := hs8.val
    obtain ⟨n8, hn8⟩ : ∃ n, n = qk.1.length := ⟨_, rfl⟩
    rw [← hn8] at hs8 ⊢
    clear hn8
    have N := Lib.hid (H_a.out.belowSize hb8); clear H_a; have H_a := N; clear N
    have N := Lib.hid (H_b.out.belowSize hb8); clear H_b; have H_b := N; clear N
    have N := Lib.hid (H_x.out.belowSize hb8); clear H_x; have H_x := N; clear N
    have N := Lib.hid (O_m.out.keep hb8); clear O_m; have O_m := N; clear N
    have N := Lib.hid (O_j.out.keep hb8); clear O_j; have O_j := N; clear N
    have N := Lib.hid (O_k.out.keep hb8); clear O_k; have O_k := N; clear N
    have HB8 := Lib.hid (bot HB7.out hb8)
    clear HB7
    have H_y := Lib.hid hs8
    clear hs8 hb8
    have t1 : (qk.2 != qk.2) = false := by simp
    have t2 : (qk.2 == qk.2) = true := by simp
    go_wp2_with fail
    refine (CS.out _ _ _ _ _ _ _ _ _ _ H_x.out H_y.out).mono ?_
    rintro e w9 ⟨rfl, hb9⟩
    have hz9 := hb9.size
    clear H_x H_y
    have N := Lib.hid (H_a.out.belowSize hb9); clear H_a; have H_a := N; clear N
    have N := Lib.hid (H_b.out.belowSize hb9); clear H_b; have H_b := N; clear N
    have N := Lib.hid (O_m.out.keep hb9); clear O_m; have O_m := N; clear N
    have N := Lib.hid (O_j.out.keep hb9); clear O_j; have O_j := N; clear N
    have N := Lib.hid (O_k.out.keep hb9); clear O_k; have O_k := N; clear N
    have HB9 := Lib.hid (bot HB8.out hb9)
    clear HB8
    clear hb9 t1 t2
    clear H_a H_b CS
    go_wp2_with fail
    refine (over_any _ _ _ _ _ _ O_m.out).mono ?_
    rintro e w10 ⟨rfl, ht10⟩
    have N := Lib.hid (O_j.out.turn ht10 (fun g hg he => by have z1 := Z_j.out.1 g hg; have z2 := Z_m.out.1 g he; have zzm := Z_m.out.2; have zzj := Z_j.out.2; have zzk := Z_k.out.2; omega) (fun b hb => hb.elim)); clear O_j; have O_j := N; clear N
    have N := Lib.hid (O_k.out.turn ht10 (fun g hg he => by have z1 := Z_k.out.1 g hg; have z2 := Z_m.out.1 g he; have zzm := Z_m.out.2; have zzj := Z_j.out.2; have zzk := Z_k.out.2; omega) (fun b hb => hb.elim)); clear O_k; have O_k := N; clear N
    have hx10 : ∀ g, (Value.slice A_m n_m c_m).ownBlock = some g → w.heap.size ≤ g := fun g hg => by have := Z_m.out.1 g hg; have := Z_m.out.2; omega
    have HB10 := Lib.hid (HB9.out.trans (ht10.below HB9.out.size hx10))
    clear HB9 hx10 ht10
    go_wp2_with fail
    refine (over_any _ _ _ _ _ _ O_j.out).mono ?_
    rintro e w11 ⟨rfl, ht11⟩
    have N := Lib.hid (O_k.out.turn ht11 (fun g hg he => by have z1 := Z_k.out.1 g hg; have z2 := Z_j.out.1 g he; have zzm := Z_m.out.2; have zzj := Z_j.out.2; have zzk := Z_k.out.2; omega) (fun b hb => hb.elim)); clear O_k; have O_k := N; clear N
    have hx11 : ∀ g, (Value.slice A_j n_j c_j).ownBlock = some g → w.heap.size ≤ g := fun g hg => by have := Z_j.out.1 g hg; have := Z_j.out.2; omega
    have HB11 := Lib.hid (HB10.out.trans (ht11.below HB10.out.size hx11))
    clear HB10 hx11 ht11
    go_wp2_with fail
    refine (over_any _ _ _ _ _ _ O_k.out).mono ?_
    rintro e w12 ⟨rfl, ht12⟩
    have hx12 : ∀ g, (Value.slice A_k n_k c_k).ownBlock = some g → w.heap.size ≤ g := fun g hg => by have := Z_k.out.1 g hg; have := Z_k.out.2; omega
    have HB12 := Lib.hid (HB11.out.trans (ht12.below HB11.out.size hx12))
    clear HB11 hx12 ht12
    go_wp2_with fail
    go_roundw
    case rel => exact ⟨k + 1, by omega, by go_num, HB12⟩
    case measure => simp [intOf]; omega
end Go.Proofs.YtghihopmiagcpaaGreatDoor
