/-
  The listed tables: a world in which they lie, for the row's witness; the digits' table as the walks ask it.
  Numerals in plain words: a whole number's digits.
  Small plain facts: bytes compared, lists cut.
  Versions and their sets in plain words: what may be, ranks, texts.
-/
import Derived.Test.YthbnmehbhpakaaaGreatDoorRows
import Derived.Below
import Derived.ProofKit
import Derived.LaidMore
import Derived.Stop.LaidErr
import Derived.Lib.LaidTab
import Derived.Lib.ItoaNum
import Derived.KernelRfl
import Derived.Test.YthbnmehbhpakaaaGreatDoorDi01
import Derived.Test.YthbnmehbhpakaaaGreatDoorDi04
import Derived.Lib.AppendIntMem
import Derived.Laws.Strings
import Derived.WalkKit
import Derived.Test.YthbnmehbhpakaaaGreatDoorDi03
import Derived.Test.YthbnmehbhpakaaaGreatDoorDi02
import Derived.Laws.Concat
import Derived.Laws.StructEq
import Derived.WalkSpells
import Derived.WalkLawsBesides
import Derived.Deep.RegionHeld3
import Derived.IntWalk
import Derived.Lib.Hide
namespace Go.Proofs.YthbnmehbhpakaaaGreatDoor
open Go.RowKit
set_option linter.unusedVariables false

def flat1 : DataW Unit → List Value
  | .lit (.int k n) => [.int k n]
  | _ => []
def flat2 : DataW Unit → List Value
  | .agg l => (l.map flat1).flatten
  | d => flat1 d
def flat3 : DataW Unit → List Value
  | .agg l => (l.map flat2).flatten
  | d => flat2 d
abbrev Tab (W : World) : Prop := Lib.TabIs Tryz.prog W "internal/strconv.uint64pow10" .u64 Lib.pow10Tab
theorem tab_below {w W : World} (h : Tab w) (hb : Below w.heap.size w W) : Tab W := by
  unfold Tab Lib.TabIs World.var? at *
  cases hg : Tryz.prog.globalNamed "internal/strconv.uint64pow10" with
  | none => rw [hg] at h; exact h
  | some g =>
    rw [hg] at h
    simp only [Option.bind_some] at *
    have hlt : g < w.heap.size := by
      rcases Nat.lt_or_ge g w.heap.size with h' | h'
      · exact h'
      · rw [Array.getElem?_eq_none h'] at h; cases h
    rw [hb.block g hlt]
    exact h
end Go.Proofs.YthbnmehbhpakaaaGreatDoor
set_option autoImplicit false
set_option relaxedAutoImplicit false
set_option linter.unusedVariables false
namespace Go.Proofs.YthbnmehbhpakaaaGreatDoor
def itoaB (n : Int) : ByteArray := ⟨(Lib.itoa n).toArray⟩
end Go.Proofs.YthbnmehbhpakaaaGreatDoor
/-
  strconv.Itoa as the walks take it.
-/
set_option autoImplicit false
set_option relaxedAutoImplicit false
set_option linter.unusedVariables false
namespace Go.Proofs.YthbnmehbhpakaaaGreatDoor
open Go.Rows Go.RowKit Go.Shelf Go.Sort
theorem itoa_any (n : Int) (hn : I64 n) (W : World) (ht : Tab W) : Calls Tryz.prog 71 #[.int .i64 n] W fun e w' => e = .returned (.string (itoaB n)) ∧ Below W.heap.size W w' :=
  (Tryz.strconv_Itoa n hn.1 hn.2 W ht).mono fun e w' ⟨he, k, os, hw⟩ => ⟨he, by rw [hw]; exact Lib.below_grow _ _ (Nat.le_refl _) _ _⟩

end Go.Proofs.YthbnmehbhpakaaaGreatDoor
namespace Go.Proofs.YthbnmehbhpakaaaGreatDoor

theorem bytes_inj {a b : ByteArray} (h : a.toList = b.toList) : a = b := by
  rw [Go.ByteArray.toList_eq, Go.ByteArray.toList_eq] at h
  obtain ⟨⟨l⟩⟩ := a
  obtain ⟨⟨k⟩⟩ := b
  have : l = k := h
  rw [this]
theorem bytes_beq (a b : ByteArray) : (a.toList == b.toList) = decide (a = b) := by
  by_cases h : a = b
  · subst h; simp
  · have : ¬ a.toList = b.toList := fun e => h (bytes_inj e)
    simp [h, this]
theorem take_next {α : Type} {xs ys : List α} {k : Nat} (h : xs.take k = ys.take k) (hx : k < xs.length) (hy : k < ys.length) (he : xs[k] = ys[k]) : xs.take (k + 1) = ys.take (k + 1) := by
  rw [List.take_succ_eq_append_getElem hx, List.take_succ_eq_append_getElem hy, h, he]
theorem ne_at {α : Type} {xs ys : List α} {k : Nat} (hx : k < xs.length) (hy : k < ys.length) (he : xs[k] ≠ ys[k]) : xs ≠ ys := by
  rintro rfl
  exact he rfl
theorem eq_of_takes {α : Type} {xs ys : List α} {k : Nat} (h : xs.take k = ys.take k) (hx : xs.length ≤ k) (hy : ys.length ≤ k) : xs = ys := by
  rwa [List.take_of_length_le hx, List.take_of_length_le hy] at h
theorem ret_bool {a b : Bool} (h : a = b) : Ending.returned (.bool a) = .returned (.bool b) := by rw [h]
theorem ret_int {k : IntKind} {a b : Int} (h : a = b) : Ending.returned (.int k a) = .returned (.int k b) := by rw [h]
theorem ret_str {a b : ByteArray} (h : a = b) : Ending.returned (.string a) = .returned (.string b) := by rw [h]

end Go.Proofs.YthbnmehbhpakaaaGreatDoor
namespace Go.Proofs.YthbnmehbhpakaaaGreatDoor
set_option linter.unusedVariables false

def partB (n : Int) : Bool := decide (0 ≤ n) && decide (n ≤ 999)
def verB (a b c : Int) : Bool := partB a && (partB b && partB c)
def rankI (a b c : Int) : Int := (a * 1000 + b) * 1000 + c
def rankR (a b c : Int) : Int := if verB a b c then rankI a b c else 0
theorem partB_iff {n : Int} : partB n = true ↔ 0 ≤ n ∧ n ≤ 999 := by simp [partB]
theorem verB_iff {a b c : Int} : verB a b c = true ↔ (0 ≤ a ∧ a ≤ 999) ∧ (0 ≤ b ∧ b ≤ 999) ∧ 0 ≤ c ∧ c ≤ 999 := by simp [verB, partB_iff]
theorem rank_bounds {a b c : Int} (h : verB a b c = true) : 0 ≤ rankI a b c ∧ rankI a b c ≤ 999999999 := by
  have := verB_iff.1 h; unfold rankI; omega
theorem rankR_bounds (a b c : Int) : 0 ≤ rankR a b c ∧ rankR a b c ≤ 999999999 := by
  unfold rankR; split
  · rename_i h; exact rank_bounds h
  · omega
theorem rank_major {a b c : Int} (h : verB a b c = true) : rankI a b c / 1000 / 1000 = a := by
  have := verB_iff.1 h; unfold rankI; omega
theorem rank_minor {a b c : Int} (h : verB a b c = true) : rankI a b c / 1000 % 1000 = b := by
  have := verB_iff.1 h; unfold rankI; omega
theorem rank_patch {a b c : Int} (h : verB a b c = true) : rankI a b c % 1000 = c := by
  have := verB_iff.1 h; unfold rankI; omega
def Ver.ok (v : Ver) : Bool := verB v.major v.minor v.patch
def Ver.rank (v : Ver) : Int := rankR v.major v.minor v.patch

def dotB : ByteArray := ⟨#[46]⟩
def verText (a b c : Int) : ByteArray := if verB a b c then itoaB a ++ dotB ++ itoaB b ++ dotB ++ itoaB c else ⟨#[]⟩

/-- spans that rise and do not touch, from a rank on -/
def spanGo : Int → List Spn → Bool
  | _, [] => true
  | least, s :: l => (s.lo.ok && s.hi.ok && decide (least ≤ s.lo.rank) && decide (s.lo.rank ≤ s.hi.rank)) && spanGo (s.hi.rank + 2) l
def spansB (l : List Spn) : Bool := decide (l.length ≤ 64) && spanGo 0 l
end Go.Proofs.YthbnmehbhpakaaaGreatDoor
/-
  Versions: the program's May, Rank, At, Print and the document's, walked.
-/
set_option autoImplicit false
set_option relaxedAutoImplicit false
set_option linter.unusedVariables false
set_option linter.unusedSimpArgs false
namespace Go.Proofs.YthbnmehbhpakaaaGreatDoor
open Go.Rows Go.RowKit Go.Shelf Go.Sort

set_option maxHeartbeats 800000 in
theorem versMay_any (a b c : Int) (w : World) :
    Calls Tryz.prog 129 #[.agg #[.int .i64 a, .int .i64 b, .int .i64 c]] w fun e w' => e = .returned (.bool (verB a b c)) ∧ Below w.heap.size w w' := by
  have i0 : ∀ w, (Instr.index 217 (.agg #[.int .i64 a, .int .i64 b, .int .i64 c]) (.int .i64 0)).run Tryz.prog w = .ok (.int .i64 a) w := fun _ => by kernel_rfl
  have i1 : ∀ w, (Instr.index 217 (.agg #[.int .i64 a, .int .i64 b, .int .i64 c]) (.int .i64 1)).run Tryz.prog w = .ok (.int .i64 b) w := fun _ => by kernel_rfl
  have i2 : ∀ w, (Instr.index 217 (.agg #[.int .i64 a, .int .i64 b, .int .i64 c]) (.int .i64 2)).run Tryz.prog w = .ok (.int .i64 c) w := fun _ => by kernel_rfl
  have Hno : Hid (∀ x, (x = a ∨ x = b ∨ x = c) → (x < 0 ∨ 999 < x) → verB a b c = false) := by
    intro x hx h
    rcases hx with rfl | rfl | rfl <;> (simp [verB, partB]; omega)
  have Hyes : Hid ((0 ≤ a ∧ a ≤ 999) → (0 ≤ b ∧ b ≤ 999) → (0 ≤ c ∧ c ≤ 999) → verB a b c = true) := fun h1 h2 h3 => verB_iff.2 ⟨h1, h2, h3⟩
  generalize hv : verB a b c = v at *
  clear hv
  go_enter Tryz.func129, Tryz.ntmps129
  go_wp2_with fail
  go_loop [12] (fun i => (i = .int .i64 0) ∨ (i = .int .i64 1 ∧ Hid (0 ≤ a ∧ a ≤ 999)) ∨ (i = .int .i64 2 ∧ Hid (0 ≤ a ∧ a ≤ 999) ∧ Hid (0 ≤ b ∧ b ≤ 999)) ∨ (i = .int .i64 3 ∧ Hid (0 ≤ a ∧ a ≤ 999) ∧ Hid (0 ≤ b ∧ b ≤ 999) ∧ Hid (0 ≤ c ∧ c ≤ 999))) (fun i => 3 - (intOf i).toNat)
  case atStart => exact .inl rfl
  case round =>
    rcases hrel with rfl | ⟨rfl, h1⟩ | ⟨rfl, h1, h2⟩ | ⟨rfl, h1, h2, h3⟩
    · by_cases g1 : a < 0
      · go_wp2_with fail
        go_ret
        exact ⟨ret_bool (Hno.out a (.inl rfl) (.inl g1)).symm, bal (Below.refl _ _) _⟩
      · by_cases g2 : 999 < a
        · go_wp2_with fail
          go_ret
          exact ⟨ret_bool (Hno.out a (.inl rfl) (.inr g2)).symm, bal (Below.refl _ _) _⟩
        · go_wp2_with fail
          go_round
          case rel => exact .inr (.inl ⟨rfl, ⟨by omega, by omega⟩⟩)
          case measure => simp [intOf]
    · by_cases g1 : b < 0
      · go_wp2_with fail
        go_ret
        exact ⟨ret_bool (Hno.out b (.inr (.inl rfl)) (.inl g1)).symm, bal (Below.refl _ _) _⟩
      · by_cases g2 : 999 < b
        · go_wp2_with fail
          go_ret
          exact ⟨ret_bool (Hno.out b (.inr (.inl rfl)) (.inr g2)).symm, bal (Below.refl _ _) _⟩
        · go_wp2_with fail
          go_round
          case rel => exact .inr (.inr (.inl ⟨rfl, h1, ⟨by omega, by omega⟩⟩))
          case measure => simp [intOf]
    · by_cases g1 : c < 0
      · go_wp2_with fail
        go_ret
        exact ⟨ret_bool (Hno.out c (.inr (.inr rfl)) (.inl g1)).symm, bal (Below.refl _ _) _⟩
      · by_cases g2 : 999 < c
        · go_wp2_with fail
          go_ret
          exact ⟨ret_bool (Hno.out c (.inr (.inr rfl)) (.inr g2)).symm, bal (Below.refl _ _) _⟩
        · go_wp2_with fail
          go_round
          case rel => exact .inr (.inr (.inr ⟨rfl, h1, h2, ⟨by omega, by omega⟩⟩))
          case measure => simp [intOf]
    · go_wp2_with fail
      go_ret
      exact ⟨ret_bool (Hyes.out h1.out h2.out h3.out).symm, bal (Below.refl _ _) _⟩

set_option maxHeartbeats 800000 in
theorem versRank_any (a b c : Int) (w : World) :
    Calls Tryz.prog 217 #[.agg #[.int .i64 a, .int .i64 b, .int .i64 c]] w fun e w' => e = .returned (.tuple #[.int .i64 (rankR a b c), .bool (verB a b c)]) ∧ Below w.heap.size w w' := by
  have Hm : Hid (∀ W, Calls Tryz.prog 129 #[.agg #[.int .i64 a, .int .i64 b, .int .i64 c]] W fun e w' => e = .returned (.bool (verB a b c)) ∧ Below W.heap.size W w') := fun W => versMay_any a b c W
  cases hv : verB a b c
  · have Hr : Hid (rankR a b c = 0) := by unfold Hid rankR; rw [hv]; rfl
    rw [hv] at Hm
    clear hv
    generalize rankR a b c = r at *
    go_enter Tryz.func217, Tryz.ntmps217
    go_wp2_with fail
    refine (Hm.out _).mono ?_
    rintro e w1 ⟨rfl, hb1⟩
    have B := bnew hb1
    clear hb1
    go_wp2_with fail
    go_ret2
    exact ⟨by rw [Hr.out]; rfl, B⟩
  · have Hr : Hid (rankR a b c = (a * 1000 + b) * 1000 + c) := by unfold Hid rankR; rw [hv]; rfl
    rw [hv] at Hm
    obtain ⟨⟨h1, h2⟩, ⟨h3, h4⟩, h5, h6⟩ := verB_iff.1 hv
    clear hv
    generalize rankR a b c = r at *
    go_enter Tryz.func217, Tryz.ntmps217
    go_wp2_with fail
    refine (Hm.out _).mono ?_
    rintro e w1 ⟨rfl, hb1⟩
    have e0 := hb1.cell (p := ⟨w.heap.size, 0, none⟩) (by simp)
    have e1 := hb1.cell (p := ⟨w.heap.size, 1, none⟩) (by simp)
    have e2 := hb1.cell (p := ⟨w.heap.size, 2, none⟩) (by simp)
    simp [go_sem] at e0 e1 e2
    have B := bnew hb1
    clear hb1
    go_wp2_with fail
    go_ret2
    exact ⟨by rw [Hr.out]; rfl, B⟩

set_option maxHeartbeats 800000 in
/-- the version at a rank -/
theorem versAt_any (n : Int) (h0 : 0 ≤ n) (h1 : n ≤ 999999999) (w : World) :
    Calls Tryz.prog 191 #[.int .i64 n] w fun e w' => e = .returned (.tuple #[.agg #[.int .i64 (n / 1000 / 1000), .int .i64 (n / 1000 % 1000), .int .i64 (n % 1000)], .bool true]) ∧ Below w.heap.size w w' := by
  have h2 : ¬ n < 0 := by omega
  have h3 : n < 1000000000 := by omega
  have q0 : 0 ≤ n / 1000 := by omega
  go_enter Tryz.func191, Tryz.ntmps191
  go_wp2_with fail
  refine bodyPost_ret (v := .tuple #[.agg #[.int .i64 (n / 1000 / 1000), .int .i64 (n / 1000 % 1000), .int .i64 (n % 1000)], .bool true]) (by simp [results, Tryz.results191, go_sem]) rfl ⟨rfl, ?_⟩
  exact bal (Below.refl _ _) _

/-- a version's texts -/
theorem verText_size {a b c : Int} (h : verB a b c = true) : (itoaB a).size ≤ 3 ∧ (itoaB b).size ≤ 3 ∧ (itoaB c).size ≤ 3 := by
  have key : ∀ n : Int, 0 ≤ n → n ≤ 999 → (itoaB n).size ≤ 3 := by
    intro n h0 h1
    have : n.toNat < 1000 := by omega
    have e : itoaB n = ⟨(Lib.decDigits n.toNat).toArray⟩ := by unfold itoaB Lib.itoa; rw [if_neg (by omega)]
    rw [e]
    show (Lib.decDigits n.toNat).toArray.size ≤ 3
    simp only [List.size_toArray]
    have hd : ∀ k : Fin 1000, (Lib.decDigits k.val).length ≤ 3 := by decide +kernel
    exact hd ⟨n.toNat, this⟩
  have := verB_iff.1 h
  exact ⟨key _ (by omega) (by omega), key _ (by omega) (by omega), key _ (by omega) (by omega)⟩

set_option maxHeartbeats 800000 in
set_option maxRecDepth 100000 in
theorem versPrint_any (a b c : Int) (w : World) (ht : Tab w) :
    Calls Tryz.prog 70 #[.agg #[.int .i64 a, .int .i64 b, .int .i64 c]] w fun e w' => e = .returned (.string (verText a b c)) ∧ Below w.heap.size w w' := by
  have Hm : Hid (∀ W, Calls Tryz.prog 129 #[.agg #[.int .i64 a, .int .i64 b, .int .i64 c]] W fun e w' => e = .returned (.bool (verB a b c)) ∧ Below W.heap.size W w') := fun W => versMay_any a b c W
  cases hv : verB a b c
  · have Hr : Hid (verText a b c = ⟨#[]⟩) := by unfold Hid verText; rw [hv]; rfl
    rw [hv] at Hm
    clear hv
    generalize verText a b c = r at *
    go_enter Tryz.func70, Tryz.ntmps70
    go_wp2_with fail
    refine (Hm.out _).mono ?_
    rintro e w1 ⟨rfl, hb1⟩
    go_wp2_with fail
    go_ret
    exact ⟨ret_str Hr.out.symm, bnew hb1⟩
  · have Hr : Hid (verText a b c = itoaB a ++ dotB ++ itoaB b ++ dotB ++ itoaB c) := by unfold Hid verText; rw [hv]; rfl
    rw [hv] at Hm
    obtain ⟨s1, s2, s3⟩ := verText_size hv
    obtain ⟨⟨h1, h2⟩, ⟨h3, h4⟩, h5, h6⟩ := verB_iff.1 hv
    have Ht := Lib.hid ht
    have z : dotB.size = 1 := rfl
    clear hv ht
    generalize verText a b c = r at *
    have A1 : ∀ W : World, (Op.stringOp .add (itoaB a) ⟨#[46]⟩).run Tryz.prog W = .ok (.string (itoaB a ++ dotB)) W := fun W => run_string_add_sum W _ dotB (by omega)
    have A2 : ∀ W : World, (Op.stringOp .add (itoaB a ++ dotB) (itoaB b)).run Tryz.prog W = .ok (.string (itoaB a ++ dotB ++ itoaB b)) W := fun W => run_string_add_sum W _ _ (by simp only [ByteArray.size_append]; omega)
    have A3 : ∀ W : World, (Op.stringOp .add (itoaB a ++ dotB ++ itoaB b) ⟨#[46]⟩).run Tryz.prog W = .ok (.string (itoaB a ++ dotB ++ itoaB b ++ dotB)) W := fun W => run_string_add_sum W _ dotB (by simp only [ByteArray.size_append]; omega)
    have A4 : ∀ W : World, (Op.stringOp .add (itoaB a ++ dotB ++ itoaB b ++ dotB) (itoaB c)).run Tryz.prog W = .ok (.string r) W := fun W => by rw [Hr.out]; exact run_string_add_sum W _ _ (by simp only [ByteArray.size_append]; omega)
    clear z
    go_enter Tryz.func70, Tryz.ntmps70
    go_wp2_with fail
    refine (Hm.out _).mono ?_
    rintro e w1 ⟨rfl, hb1⟩
    have e0 := hb1.cell (p := ⟨w.heap.size, 0, none⟩) (by simp)
    have e1 := hb1.cell (p := ⟨w.heap.size, 1, none⟩) (by simp)
    have e2 := hb1.cell (p := ⟨w.heap.size, 2, none⟩) (by simp)
    simp [go_sem] at e0 e1 e2
    have B := bnew hb1
    have Ht1 : Hid (Tab w1) := tab_below Ht.out B
    have Hc0 := Lib.hid (qcall (w := w1) (fun W hW => itoa_any a ⟨by omega, by omega⟩ W (tab_below Ht1.out hW)))
    have Hc1 := Lib.hid (qcall (w := w1) (fun W hW => itoa_any b ⟨by omega, by omega⟩ W (tab_below Ht1.out hW)))
    have Hc2 := Lib.hid (qcall (w := w1) (fun W hW => itoa_any c ⟨by omega, by omega⟩ W (tab_below Ht1.out hW)))
    clear hb1
    have r_e0 := cell_regrown e0
    have r_e1 := cell_regrown e1
    have r_e2 := cell_regrown e2
    go_wp2_with fail
    refine wp_region_qb (by kernel_rfl) (by kernel_rfl) ?_
    repeat (go_big_quiet_step (first | (with_reducible exact Hc0.out _ _) | (with_reducible exact Hc1.out _ _) | (with_reducible exact Hc2.out _ _)))
    refine wpQuiet_nil ?_
    intro w2 B2
    go_wp2_with fail
    go_ret
    exact ⟨rfl, bot B B2⟩
end Go.Proofs.YthbnmehbhpakaaaGreatDoor
/-
  The document's Number and Print of a version, walked.
-/
set_option autoImplicit false
set_option relaxedAutoImplicit false
set_option linter.unusedVariables false
set_option linter.unusedSimpArgs false
namespace Go.Proofs.YthbnmehbhpakaaaGreatDoor
open Go.Rows Go.RowKit Go.Shelf Go.Sort

end Go.Proofs.YthbnmehbhpakaaaGreatDoor
