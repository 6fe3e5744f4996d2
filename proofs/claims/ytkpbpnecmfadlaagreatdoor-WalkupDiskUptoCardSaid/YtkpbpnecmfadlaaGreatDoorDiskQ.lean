/-
  Parts of a disk's paths: the document's Part and the program's part, walked.
  Parts of a disk's paths: the program's part, walked.
-/
import Derived.Test.YtkpbpnecmfadlaaGreatDoorScanName
import Derived.Test.YtkpbpnecmfadlaaGreatDoorQuietB
import Derived.Laws.IdiomStrings
set_option autoImplicit false
set_option relaxedAutoImplicit false
set_option linter.unusedVariables false
set_option linter.unusedSimpArgs false
namespace Go.Proofs.YtkpbpnecmfadlaaGreatDoor
open Go.Rows Go.RowKit Go.Shelf

/-- may a byte stand in a part of a path -/
def pieceC (b : UInt8) : Bool := lowerC b || (decide (48 ≤ b.toNat) && decide (b.toNat ≤ 57)) || decide (b.toNat = 46) || decide (b.toNat = 45)
/-- may a text be a part of a path -/
def pieceB (s : ByteArray) : Bool := decide (1 ≤ s.size) && decide (s.size ≤ 24) && !(s.toList == [46]) && !(s.toList == [46, 46]) && s.data.toList.all pieceC
theorem pieceC_cases (b : UInt8) :
    (pieceC b = true ∧ ((97 ≤ (b.toNat : Int) ∧ (b.toNat : Int) ≤ 122) ∨ (48 ≤ (b.toNat : Int) ∧ (b.toNat : Int) ≤ 57) ∨ ((b.toNat : Int) = 45 ∧ ((b.toNat : Int) == 45) = true ∧ ((b.toNat : Int) == 46) = false) ∨ ((b.toNat : Int) = 46 ∧ ((b.toNat : Int) == 45) = false ∧ ((b.toNat : Int) == 46) = true))) ∨
    (pieceC b = false ∧ ((b.toNat : Int) == 45) = false ∧ ((b.toNat : Int) == 46) = false ∧ ((b.toNat : Int) < 48 ∨ (57 < (b.toNat : Int) ∧ (b.toNat : Int) < 97) ∨ 122 < (b.toNat : Int))) := by
  have hp : pieceC b = ((((decide (97 ≤ b.toNat) && decide (b.toNat ≤ 122)) || (decide (48 ≤ b.toNat) && decide (b.toNat ≤ 57))) || decide (b.toNat = 46)) || decide (b.toNat = 45)) := rfl
  rw [hp]
  simp only [Bool.or_eq_true, Bool.and_eq_true, decide_eq_true_eq, Bool.or_eq_false_iff, Bool.and_eq_false_iff, decide_eq_false_iff_not, beq_iff_eq, beq_eq_false_iff_ne]
  omega

set_option maxHeartbeats 800000 in
theorem docPart_any (s : ByteArray) (hs : s.size ≤ maxLen) (w : World) :
    Calls Tryz.prog 33 #[.string s] w fun e w' => e = .returned (.bool (pieceB s)) ∧ w = w' := by
  unfold maxLen at hs
  by_cases h1 : s.size < 1
  · have Hn : Hid (pieceB s = false) := by unfold Hid pieceB; rw [decide_eq_false (by omega)]; rfl
    have h1I : (s.size : Int) < 1 := by omega
    clear h1
    go_enter Tryz.func33, Tryz.ntmps33
    go_wp2_with fail
    go_ret
    exact ⟨ret_bool Hn.out.symm, rfl⟩
  have h1I : ¬ (s.size : Int) < 1 := by omega
  by_cases h2 : 24 < s.size
  · have Hn : Hid (pieceB s = false) := by unfold Hid pieceB; rw [decide_eq_false (p := s.size ≤ 24) (by omega), Bool.and_false]; rfl
    have h2I : (24 : Int) < s.size := by omega
    clear h1 h2
    go_enter Tryz.func33, Tryz.ntmps33
    go_wp2_with fail
    go_ret
    exact ⟨ret_bool Hn.out.symm, rfl⟩
  have h2I : ¬ (24 : Int) < s.size := by omega
  cases h3 : s.toList == [46] with
  | true =>
    have Hn : Hid (pieceB s = false) := by unfold Hid pieceB; rw [h3]; simp
    clear h1 h2
    go_enter Tryz.func33, Tryz.ntmps33
    go_wp2_with fail
    go_ret
    exact ⟨ret_bool Hn.out.symm, rfl⟩
  | false =>
  cases h4 : s.toList == [46, 46] with
  | true =>
    have Hn : Hid (pieceB s = false) := by unfold Hid pieceB; rw [h4]; simp
    clear h1 h2
    go_enter Tryz.func33, Tryz.ntmps33
    go_wp2_with fail
    go_ret
    exact ⟨ret_bool Hn.out.symm, rfl⟩
  | false =>
  have Hp : Hid (pieceB s = s.data.toList.all pieceC) := by
    unfold Hid pieceB
    rw [h3, h4, decide_eq_true (p := 1 ≤ s.size) (by omega), decide_eq_true (p := s.size ≤ 24) (by omega)]
    rfl
  clear h1 h2
  go_enter Tryz.func33, Tryz.ntmps33
  go_wp2_with fail
  clear h3 h4 h1I h2I
  go_loop [3] (fun i => ∃ k : Nat, k ≤ s.size ∧ i = .int .i64 k ∧ Hid (s.data.toList.all pieceC = (s.data.toList.drop k).all pieceC)) (fun i => s.size - (intOf i).toNat)
  case atStart => exact ⟨0, Nat.zero_le _, rfl, rfl⟩
  case round =>
    obtain ⟨k, hk, rfl, hrl⟩ := hrel
    by_cases hlt : k < s.size
    · have hkI : (k : Int) < (s.size : Int) := by omega
      have hst : (s.data.toList.drop k).all pieceC = (pieceC s[k] && (s.data.toList.drop (k + 1)).all pieceC) := by rw [byte_at s k hlt, List.all_cons]
      rcases pieceC_cases s[k] with ⟨hc, hcl⟩ | ⟨hc, c1, c2, hcl⟩
      · have hok : Hid (s.data.toList.all pieceC = (s.data.toList.drop (k + 1)).all pieceC) := by
          unfold Hid; rw [hrl.out, hst, hc]; rfl
        clear hc hst hrl
        rcases hcl with ⟨q1, q2⟩ | ⟨q1, q2⟩ | ⟨q1, q2, q3⟩ | ⟨q1, q2, q3⟩
        all_goals
          go_wp2_with fail
          go_round
          case rel => exact ⟨k + 1, by omega, by go_num, hok⟩
          case measure => simp [intOf]; omega
      · have hbad : Hid (pieceB s = false) := by
          unfold Hid; rw [Hp.out, hrl.out, hst, hc]; rfl
        have e1 : ¬ (s[k].toNat : Int) = 45 := by simpa using c1
        have e2 : ¬ (s[k].toNat : Int) = 46 := by simpa using c2
        have d1 : ((s[k].toNat : Int) != 45) = true := by simpa using c1
        have d2 : ((s[k].toNat : Int) != 46) = true := by simpa using c2
        clear hc hst hrl Hp
        rcases hcl with q1 | ⟨q1, q2⟩ | q1
        all_goals
          go_wp2_with fail
          all_goals first
            | (go_ret
               exact ⟨ret_bool hbad.out.symm, rfl⟩)
            | (exfalso
               rename_i hx
               rcases hx with hx | hx <;> simp at hx <;> omega)
            | (exfalso
               rename_i hx
               simp at hx
               omega)
            | (exfalso
               omega)
            | trace_state
    · have hkI : ¬ (k : Int) < (s.size : Int) := by omega
      have hok : Hid (pieceB s = true) := by
        unfold Hid; rw [Hp.out, hrl.out, List.drop_eq_nil_of_le (by rw [← size_data]; omega)]; rfl
      clear hrl Hp
      go_wp2_with fail
      go_ret
      exact ⟨ret_bool hok.out.symm, rfl⟩
end Go.Proofs.YtkpbpnecmfadlaaGreatDoor
set_option autoImplicit false
set_option relaxedAutoImplicit false
set_option linter.unusedVariables false
set_option linter.unusedSimpArgs false
namespace Go.Proofs.YtkpbpnecmfadlaaGreatDoor
open Go.Rows Go.RowKit Go.Shelf

/-- a text's bytes as a slice -/
theorem bytes_of (s : ByteArray) (w : World) : ∃ w1 cap, (convert 9 85 (.string s)).run Tryz.prog w = .ok (.slice (some ⟨w.heap.size, 0, none⟩) s.size cap) w1 ∧ Below w.heap.size w w1 ∧
    ∀ k (h : k < s.size), w1.cell? ⟨w.heap.size, k, none⟩ = some (.int .u8 (s[k].toNat : Int)) := by
  refine ⟨_, _, run_bytes_of_string w 9 85 5 s Tryz.underlying9 Tryz.underlying85 Tryz.underlying5, ?_, fun k h => ?_⟩
  · exact bal (Below.refl _ _).drew _
  · have := World.cell?_alloc_mark w.drew (bytesRow s (grownCap w s.size 0 5)) 5 ((bytesRow s (grownCap w s.size 0 5)).size, (bytesRow s (grownCap w s.size 0 5)).size + 1) k
    exact this.trans (bytesRow_at s _ k h)

set_option maxHeartbeats 1600000 in
set_option maxRecDepth 100000 in
theorem diskPart_any (s : ByteArray) (hs : s.size ≤ maxLen) (w : World) :
    Calls Tryz.prog 31 #[.string s] w fun e w' => e = .returned (.bool (pieceB s)) ∧ Below w.heap.size w w' := by
  unfold maxLen at hs
  by_cases h1 : s.size < 1
  · have Hn : Hid (pieceB s = false) := by unfold Hid pieceB; rw [decide_eq_false (by omega)]; rfl
    have h1I : (s.size : Int) < 1 := by omega
    clear h1
    go_enter Tryz.func31, Tryz.ntmps31
    go_wp2_with fail
    go_ret
    exact ⟨ret_bool Hn.out.symm, Below.refl _ _⟩
  have h1I : ¬ (s.size : Int) < 1 := by omega
  by_cases h2 : 24 < s.size
  · have Hn : Hid (pieceB s = false) := by unfold Hid pieceB; rw [decide_eq_false (p := s.size ≤ 24) (by omega), Bool.and_false]; rfl
    have h2I : (24 : Int) < s.size := by omega
    clear h1 h2
    go_enter Tryz.func31, Tryz.ntmps31
    go_wp2_with fail
    go_ret
    exact ⟨ret_bool Hn.out.symm, Below.refl _ _⟩
  have h2I : ¬ (24 : Int) < s.size := by omega
  cases h3 : s.toList == [46] with
  | true =>
    have Hn : Hid (pieceB s = false) := by unfold Hid pieceB; rw [h3]; simp
    clear h1 h2
    go_enter Tryz.func31, Tryz.ntmps31
    go_wp2_with fail
    go_ret
    exact ⟨ret_bool Hn.out.symm, Below.refl _ _⟩
  | false =>
  cases h4 : s.toList == [46, 46] with
  | true =>
    have Hn : Hid (pieceB s = false) := by unfold Hid pieceB; rw [h4]; simp
    clear h1 h2
    go_enter Tryz.func31, Tryz.ntmps31
    go_wp2_with fail
    go_ret
    exact ⟨ret_bool Hn.out.symm, Below.refl _ _⟩
  | false =>
  have Hp : Hid (pieceB s = s.data.toList.all pieceC) := by
    unfold Hid pieceB
    rw [h3, h4, decide_eq_true (p := 1 ≤ s.size) (by omega), decide_eq_true (p := s.size ≤ 24) (by omega)]
    rfl
  clear h1 h2
  obtain ⟨w1, cap, hconv, hb1, hcell⟩ := bytes_of s w
  have HB1 := Lib.hid hb1
  have HC := Lib.hid hcell
  clear hb1 hcell
  go_enter Tryz.func31, Tryz.ntmps31
  go_wp2_with fail
  clear h3 h4 h1I h2I hconv
  go_loop [24] (fun i => ∃ k : Nat, k ≤ s.size ∧ i = .int .i64 k ∧ Hid (s.data.toList.all pieceC = (s.data.toList.drop k).all pieceC)) (fun i => s.size - (intOf i).toNat)
  case atStart => exact ⟨0, Nat.zero_le _, rfl, rfl⟩
  case round =>
    obtain ⟨k, hk, rfl, hrl⟩ := hrel
    by_cases hlt : k < s.size
    · have hkI : (k : Int) < (s.size : Int) := by omega
      have hck := HC.out k hlt
      have hst : (s.data.toList.drop k).all pieceC = (pieceC s[k] && (s.data.toList.drop (k + 1)).all pieceC) := by rw [byte_at s k hlt, List.all_cons]
      rcases pieceC_cases s[k] with ⟨hc, hcl⟩ | ⟨hc, c1, c2, hcl⟩
      · have hok : Hid (s.data.toList.all pieceC = (s.data.toList.drop (k + 1)).all pieceC) := by
          unfold Hid; rw [hrl.out, hst, hc]; rfl
        clear hc hst hrl
        rcases hcl with ⟨q1, q2⟩ | ⟨q1, q2⟩ | ⟨q1, q2, q3⟩ | ⟨q1, q2, q3⟩
        all_goals
          go_wp2_with fail
          go_round
          case rel => exact ⟨k + 1, by omega, by go_num, hok⟩
          case measure => simp [intOf]; omega
      · have hbad : Hid (pieceB s = false) := by
          unfold Hid; rw [Hp.out, hrl.out, hst, hc]; rfl
        have e1 : ¬ (s[k].toNat : Int) = 45 := by simpa using c1
        have e2 : ¬ (s[k].toNat : Int) = 46 := by simpa using c2
        have d1 : ((s[k].toNat : Int) != 45) = true := by simpa using c1
        have d2 : ((s[k].toNat : Int) != 46) = true := by simpa using c2
        clear hc hst hrl Hp
        rcases hcl with q1 | ⟨q1, q2⟩ | q1
        all_goals
          go_wp2_with fail
          all_goals first
            | (go_ret
               exact ⟨ret_bool hbad.out.symm, HB1.out⟩)
            | (exfalso
               rename_i hx
               rcases hx with hx | hx <;> simp at hx <;> omega)
            | (exfalso
               rename_i hx
               simp at hx
               omega)
            | (exfalso
               omega)
            | trace_state
    · have hkI : ¬ (k : Int) < (s.size : Int) := by omega
      have hok : Hid (pieceB s = true) := by
        unfold Hid; rw [Hp.out, hrl.out, List.drop_eq_nil_of_le (by rw [← size_data]; omega)]; rfl
      clear hrl Hp
      go_wp2_with fail
      go_ret
      exact ⟨ret_bool hok.out.symm, HB1.out⟩
end Go.Proofs.YtkpbpnecmfadlaaGreatDoor
