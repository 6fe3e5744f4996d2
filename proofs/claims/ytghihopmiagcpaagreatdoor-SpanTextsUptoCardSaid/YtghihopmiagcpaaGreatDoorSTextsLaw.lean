/-
  halyardlaw03.SpanTexts, walked.
-/
import Derived.Test.YtghihopmiagcpaaGreatDoorOver
import Derived.Test.YtghihopmiagcpaaGreatDoorReadP
import Derived.Test.YtghihopmiagcpaaGreatDoorScanName
set_option autoImplicit false
set_option relaxedAutoImplicit false
set_option linter.unusedVariables false
set_option linter.unusedSimpArgs false
namespace Go.Proofs.YtghihopmiagcpaaGreatDoor
open Go.Rows Go.RowKit Go.Shelf Go.Sort

theorem no_bar_next {s : ByteArray} {k : Nat} (hk : k < s.size) (h : (124 : UInt8) ∉ s.data.toList.take k) (hne : s[k] ≠ 124) : (124 : UInt8) ∉ s.data.toList.take (k + 1) := by
  have h' : k < s.data.toList.length := by rw [← size_data]; exact hk
  rw [List.take_succ_eq_append_getElem h']
  intro hm
  rcases List.mem_append.1 hm with hm | hm
  · exact h hm
  · have e : s.data.toList[k] = s[k] := by
      have := byte_at s k hk
      rw [List.drop_eq_getElem_cons h'] at this
      exact (List.cons.inj this).1
    rw [List.mem_singleton, e] at hm
    exact hne hm.symm

set_option maxHeartbeats 4000000 in
set_option maxRecDepth 100000 in
theorem spanTexts_law (s t : ByteArray) (w : World) (hv : Vok w) (hs : s.size ≤ 1048576) (ht : t.size ≤ 1048576) :
    Calls Tryz.prog 7 #[.string s, .string t] w fun e w' => e = .returned (.bool true) ∧ Below w.heap.size w w' := by
  have Hv := Lib.hid hv
  have HPs := Lib.hid (spanParse_any s w hv (by omega))
  have HPt : Hid (∀ W, Vok W → Calls Tryz.prog 17 #[.string t] W fun e w' => ∃ v, e = .returned (.tuple #[v, .int .i64 (parseQ t).2]) ∧ SlV rSpn w' (fun b => W.heap.size ≤ b) (parseQ t).1 v ∧ Below W.heap.size W w') := fun W hW => spanParse_any t W hW (by omega)
  have HPb : Hid (∀ W, Vok W → Calls Tryz.prog 17 #[.string (s ++ barsB ++ t)] W fun e w' => ∃ v, e = .returned (.tuple #[v, .int .i64 (parseQ (s ++ barsB ++ t)).2]) ∧ SlV rSpn w' (fun b => W.heap.size ≤ b) (parseQ (s ++ barsB ++ t)).1 v ∧ Below W.heap.size W w') := fun W hW => spanParse_any _ W hW (by simp only [ByteArray.size_append]; have : barsB.size = 2 := rfl; omega)
  have HPk : Hid (∀ W, Vok W → Calls Tryz.prog 17 #[.string (s ++ blankB ++ t)] W fun e w' => ∃ v, e = .returned (.tuple #[v, .int .i64 (parseQ (s ++ blankB ++ t)).2]) ∧ SlV rSpn w' (fun b => W.heap.size ≤ b) (parseQ (s ++ blankB ++ t)).1 v ∧ Below W.heap.size W w') := fun W hW => spanParse_any _ W hW (by simp only [ByteArray.size_append]; have : blankB.size = 1 := rfl; omega)
  have HJb : Hid ((parseQ s).2 = 0 → (parseQ t).2 = 0 → s.size + t.size ≤ 4000 → parseQ (s ++ barsB ++ t) = foldQ 106 (parseQ s).1 (parseQ t).1) := fun h1 h2 h3 => parse_bars h1 h2 h3
  have HJk : Hid ((parseQ s).2 = 0 → (parseQ t).2 = 0 → s.size + t.size ≤ 4000 → (124 : UInt8) ∉ s.data.toList → (124 : UInt8) ∉ t.data.toList → parseQ (s ++ blankB ++ t) = foldQ 109 (parseQ s).1 (parseQ t).1) := fun h1 h2 h3 h4 h5 => parse_blank h1 h2 h3 h4 h5
  have A1 : ∀ W : World, (Op.stringOp .add s ⟨#[124, 124]⟩).run Tryz.prog W = .ok (.string (s ++ barsB)) W := fun W => run_string_add_sum W _ barsB (by have : barsB.size = 2 := rfl; omega)
  have A2 : ∀ W : World, (Op.stringOp .add (s ++ barsB) t).run Tryz.prog W = .ok (.string (s ++ barsB ++ t)) W := fun W => run_string_add_sum W _ _ (by simp only [ByteArray.size_append]; have : barsB.size = 2 := rfl; omega)
  have A3 : ∀ W : World, (Op.stringOp .add s ⟨#[32]⟩).run Tryz.prog W = .ok (.string (s ++ blankB)) W := fun W => run_string_add_sum W _ blankB (by have : blankB.size = 1 := rfl; omega)
  have A4 : ∀ W : World, (Op.stringOp .add (s ++ blankB) t).run Tryz.prog W = .ok (.string (s ++ blankB ++ t)) W := fun W => run_string_add_sum W _ _ (by simp only [ByteArray.size_append]; have : blankB.size = 1 := rfl; omega)
  have CJ : Hid (∀ W A n k1 B m k2 S T a b, SlV rSpn W S a (.slice A n k1) → SlV rSpn W T b (.slice B m k2) → Calls Tryz.prog 25 #[.slice A n k1, .slice B m k2] W (Made W (foldQ 106 a b))) := fun W A n k1 B m k2 S T a b hx hy => join2_any A B n m k1 k2 _ _ W S T hx hy
  have CK : Hid (∀ W A n k1 B m k2 S T a b, SlV rSpn W S a (.slice A n k1) → SlV rSpn W T b (.slice B m k2) → Calls Tryz.prog 26 #[.slice A n k1, .slice B m k2] W (Made W (foldQ 109 a b))) := fun W A n k1 B m k2 S T a b hx hy => meet_any A B n m k1 k2 _ _ W S T hx hy
  have CS : Hid (∀ W A n k1 B m k2 S T l, SlV rSpn W S l (.slice A n k1) → SlV rSpn W T l (.slice B m k2) → Calls Tryz.prog 19 #[.slice A n k1, .slice B m k2] W fun e w' => e = .returned (.bool true) ∧ Below W.heap.size W w') := fun W A n k1 B m k2 S T l h1 h2 => same_yes A B n m k1 k2 l W S T h1 h2
  have HLs := Lib.hid (size_data s)
  have HLt := Lib.hid (size_data t)
  clear hv
  generalize s ++ barsB ++ t = sb at *
  generalize s ++ barsB = sb1 at *
  generalize s ++ blankB ++ t = sk at *
  generalize s ++ blankB = sk1 at *
  generalize parseQ s = Q at *
  generalize parseQ t = R at *
  generalize parseQ sb = U at *
  generalize parseQ sk = V at *
  have hsum : IntKind.i64.wrap ((s.size : Int) + (t.size : Int)) = (s.size : Int) + (t.size : Int) := IntWalk.i64_in _ ⟨by omega, by omega⟩
  go_enter Tryz.func7, Tryz.ntmps7
  go_wp2_with fail
  refine HPs.out.mono ?_
  rintro e w1 ⟨v1, rfl, hv1, hb1⟩
  obtain ⟨X1, c1, rfl, _, _⟩ := hv1.val
  obtain ⟨n1, hn1⟩ : ∃ n, n = Q.1.length := ⟨_, rfl⟩
  rw [← hn1] at hv1 ⊢
  have H1 := Lib.hid hv1
  have HB1 := Lib.hid hb1
  clear hv1 hb1 hn1 HPs
  go_wp2_with fail
  refine (HPt.out _ (Hv.out.below HB1.out)).mono ?_
  rintro e w2 ⟨v2, rfl, hv2, hb2⟩
  obtain ⟨X2, c2, rfl, _, _⟩ := hv2.val
  obtain ⟨n2, hn2⟩ : ∃ n, n = R.1.length := ⟨_, rfl⟩
  rw [← hn2] at hv2 ⊢
  have H2 := Lib.hid hv2
  have H1' := Lib.hid (H1.out.belowSize hb2)
  have HB2 := Lib.hid (bot HB1.out hb2)
  clear hv2 hb2 hn2 HPt H1
  go_wp2_with fail
  refine (known_any _ (Hv.out.below HB2.out)).mono ?_
  rintro e w3 ⟨rfl, hb3⟩
  have H1 := Lib.hid (H1'.out.belowSize hb3)
  have H2' := Lib.hid (H2.out.belowSize hb3)
  have HB3 := Lib.hid (bot HB2.out hb3)
  clear hb3 H1' H2
  by_cases e1 : Q.2 = 0
  case neg =>
    have t1 : (Q.2 != 0) = true := by simp [e1]
    have t1' : (Q.2 == 0) = false := by simp [e1]
    clear e1 HJb HJk
    go_wp2_with fail
    go_ret
    exact ⟨rfl, HB3.out⟩
  by_cases e2 : R.2 = 0
  case neg =>
    have t1 : (Q.2 != 0) = false := by simp [e1]
    have t1' : (Q.2 == 0) = true := by simp [e1]
    have t2 : (R.2 != 0) = true := by simp [e2]
    have t2' : (R.2 == 0) = false := by simp [e2]
    clear e1 e2 HJb HJk
    go_wp2_with fail
    go_ret
    exact ⟨rfl, HB3.out⟩
  by_cases e3 : s.size + t.size ≤ 4000
  case neg =>
    have t1 : (Q.2 != 0) = false := by simp [e1]
    have t1' : (Q.2 == 0) = true := by simp [e1]
    have t2 : (R.2 != 0) = false := by simp [e2]
    have t2' : (R.2 == 0) = true := by simp [e2]
    have t3 : (4000 : Int) < (s.size : Int) + (t.size : Int) := by omega
    clear e1 e2 e3 HJb HJk
    go_wp2_with fail
    go_ret
    exact ⟨rfl, HB3.out⟩
  have hU := HJb.out e1 e2 e3
  have HV := Lib.hid (HJk.out e1 e2 e3)
  subst hU
  have t1 : (Q.2 != 0) = false := by simp [e1]
  have t1' : (Q.2 == 0) = true := by simp [e1]
  have t2 : (R.2 != 0) = false := by simp [e2]
  have t2' : (R.2 == 0) = true := by simp [e2]
  have t3 : ¬ (4000 : Int) < (s.size : Int) + (t.size : Int) := by omega
  clear e1 e2 e3 HJb HJk
  obtain ⟨J, hJ⟩ : ∃ J, J = foldQ 106 Q.1 R.1 := ⟨_, rfl⟩
  have CJ' := Lib.hid (fun W A n k1 B m k2 S T hx hy => CJ.out W A n k1 B m k2 S T Q.1 R.1 hx hy)
  rw [← hJ] at HPb CJ'
  clear hJ CJ
  go_wp2_with fail
  refine (HPb.out _ (Hv.out.below HB3.out)).mono ?_
  rintro e w4 ⟨v4, rfl, hv4, hb4⟩
  obtain ⟨X4, c4, rfl, _, _⟩ := hv4.val
  obtain ⟨n4, hn4⟩ : ∃ n, n = J.1.length := ⟨_, rfl⟩
  rw [← hn4] at hv4 ⊢
  have H4 := Lib.hid hv4
  have H1' := Lib.hid (H1.out.belowSize hb4)
  have H2 := Lib.hid (H2'.out.belowSize hb4)
  have HB4 := Lib.hid (bot HB3.out hb4)
  clear hv4 hb4 hn4 HPb H1 H2' t1 t1' t2 t2' t3
  go_wp2_with fail
  refine (CJ'.out _ _ _ _ _ _ _ _ _ H1'.out H2.out).mono ?_
  rintro e w5 ⟨v5, rfl, ho5, hb5⟩
  have hv5 := ho5.slvB
  obtain ⟨X5, c5, rfl, _, _⟩ := hv5.val
  obtain ⟨n5, hn5⟩ : ∃ n, n = J.1.length := ⟨_, rfl⟩
  rw [← hn5] at hv5 ⊢
  have H5 := Lib.hid hv5
  have H4' := Lib.hid (H4.out.belowSize hb5)
  have H1 := Lib.hid (H1'.out.belowSize hb5)
  have H2' := Lib.hid (H2.out.belowSize hb5)
  have HB5 := Lib.hid (bot HB4.out hb5)
  clear hv5 hb5 hn5 ho5 CJ' H1' H2 H4
  have s1 : (J.2 != J.2) = false := by simp
  have s2 : (J.2 == J.2) = true := by simp
  go_wp2_with fail
  refine (CS.out _ _ _ _ _ _ _ _ _ _ H4'.out H5.out).mono ?_
  rintro e w6 ⟨rfl, hb6⟩
  have H1' := Lib.hid (H1.out.belowSize hb6)
  have H2 := Lib.hid (H2'.out.belowSize hb6)
  have HB6 := Lib.hid (bot HB5.out hb6)
  clear hb6 H1 H2' H4' H5 s1 s2
  go_wp2_with fail
  go_loopw [13] (fun i wr => ∃ k : Nat, k ≤ s.size ∧ i = .int .i64 k ∧ Hid ((124 : UInt8) ∉ s.data.toList.take k) ∧ Hid (wr = w6)) (fun i _ => s.size - (intOf i).toNat)
  case atStart => exact ⟨0, Nat.zero_le _, rfl, by unfold Hid; simp, rfl⟩
  case round =>
    obtain ⟨k, hk, rfl, Hn, Hw⟩ := hrel
    have hww := Hw.out
    subst hww
    by_cases hlt : k < s.size
    · have hkI : (k : Int) < (s.size : Int) := by omega
      have hk0 : (0 : Int) ≤ (k : Int) := by omega
      by_cases hc : s[k] = 124
      · have b1 : ((s[k].toNat : Int) == 124) = true := by rw [hc]; rfl
        clear hc
        go_wp2_with fail
        go_ret
        exact ⟨rfl, HB6.out⟩
      · have b1 : ((s[k].toNat : Int) == 124) = false := by
          rw [beq_eq_false_iff_ne]; intro e; exact hc (UInt8.toNat_inj.1 (by show s[k].toNat = 124; omega))
        have Hn2 := Lib.hid (no_bar_next hlt Hn.out hc)
        clear hc
        go_wp2_with fail
        go_roundw
        case rel => exact ⟨k + 1, by omega, by go_num, Hn2, by first | exact rfl | exact trivial⟩
        case measure => simp [intOf]; omega
    have hkI : ¬ (k : Int) < (s.size : Int) := by omega
    have Hns : Hid ((124 : UInt8) ∉ s.data.toList) := by
      unfold Hid
      have := Hn.out
      rwa [List.take_of_length_le (by rw [← size_data]; omega)] at this
    clear Hn
    go_wp2_with fail
    go_loopw [14] (fun i wx => ∃ k : Nat, k ≤ t.size ∧ i = .int .i64 k ∧ Hid ((124 : UInt8) ∉ t.data.toList.take k) ∧ Hid (wx = wr)) (fun i _ => t.size - (intOf i).toNat)
    case atStart => exact ⟨0, Nat.zero_le _, rfl, by unfold Hid; simp, rfl⟩
    case round =>
      obtain ⟨k, hk, rfl, Hn, Hw⟩ := hrel
      have hww := Hw.out
      subst hww
      by_cases hlt : k < t.size
      · have hkI : (k : Int) < (t.size : Int) := by omega
        have hk0 : (0 : Int) ≤ (k : Int) := by omega
        by_cases hc : t[k] = 124
        · have b1 : ((t[k].toNat : Int) == 124) = true := by rw [hc]; rfl
          clear hc
          go_wp2_with fail
          go_ret
          exact ⟨rfl, HB6.out⟩
        · have b1 : ((t[k].toNat : Int) == 124) = false := by
            rw [beq_eq_false_iff_ne]; intro e; exact hc (UInt8.toNat_inj.1 (by show t[k].toNat = 124; omega))
          have Hn2 := Lib.hid (no_bar_next hlt Hn.out hc)
          clear hc
          go_wp2_with fail
          go_roundw
          case rel => exact ⟨k + 1, by omega, by go_num, Hn2, by first | exact rfl | exact trivial⟩
          case measure => simp [intOf]; omega
      have hkI : ¬ (k : Int) < (t.size : Int) := by omega
      have Hnt : Hid ((124 : UInt8) ∉ t.data.toList) := by
        unfold Hid
        have := Hn.out
        rwa [List.take_of_length_le (by rw [← size_data]; omega)] at this
      have hV := HV.out Hns.out Hnt.out
      subst hV
      clear HV Hn Hnt Hns
      obtain ⟨M, hM⟩ : ∃ M, M = foldQ 109 Q.1 R.1 := ⟨_, rfl⟩
      have CK' := Lib.hid (fun W A n k1 B m k2 S T hx hy => CK.out W A n k1 B m k2 S T Q.1 R.1 hx hy)
      rw [← hM] at HPk CK'
      clear hM CK
      go_wp2_with fail
      refine (HPk.out _ (Hv.out.below HB6.out)).mono ?_
      rintro e w7 ⟨v7, rfl, hv7, hb7⟩
      obtain ⟨X7, c7, rfl, _, _⟩ := hv7.val
      obtain ⟨n7, hn7⟩ : ∃ n, n = M.1.length := ⟨_, rfl⟩
      rw [← hn7] at hv7 ⊢
      have H7 := Lib.hid hv7
      have H1 := Lib.hid (H1'.out.belowSize hb7)
      have H2' := Lib.hid (H2.out.belowSize hb7)
      have HB7 := Lib.hid (bot HB6.out hb7)
      clear hv7 hb7 hn7 HPk H1' H2
      go_wp2_with fail
      refine (CK'.out _ _ _ _ _ _ _ _ _ H1.out H2'.out).mono ?_
      rintro e w8 ⟨v8, rfl, ho8, hb8⟩
      have hv8 := ho8.slvB
      obtain ⟨X8, c8, rfl, _, _⟩ := hv8.val
      obtain ⟨n8, hn8⟩ : ∃ n, n = M.1.length := ⟨_, rfl⟩
      rw [← hn8] at hv8 ⊢
      have H8 := Lib.hid hv8
      have H7' := Lib.hid (H7.out.belowSize hb8)
      have HB8 := Lib.hid (bot HB7.out hb8)
      clear hv8 hb8 hn8 ho8 CK' H7 H1 H2'
      have s1 : (M.2 != M.2) = false := by simp
      have s2 : (M.2 == M.2) = true := by simp
      go_wp2_with fail
      refine (CS.out _ _ _ _ _ _ _ _ _ _ H7'.out H8.out).mono ?_
      rintro e w9 ⟨rfl, hb9⟩
      go_wp2_with fail
      go_ret
      exact ⟨rfl, bot HB8.out hb9⟩
end Go.Proofs.YtghihopmiagcpaaGreatDoor
