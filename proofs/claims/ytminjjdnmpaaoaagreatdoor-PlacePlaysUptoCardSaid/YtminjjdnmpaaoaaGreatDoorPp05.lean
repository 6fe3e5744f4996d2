/-
  Versions and their sets in plain words: what may be, ranks, texts.
-/
import Derived.Test.YtminjjdnmpaaoaaGreatDoorPp02
import Derived.Test.YtminjjdnmpaaoaaGreatDoorPp03
import Derived.Test.YtminjjdnmpaaoaaGreatDoorRows
import Derived.Test.YtminjjdnmpaaoaaGreatDoorPp04
import Derived.Lib.AppendIntMem
import Derived.Laws.Concat
import Derived.Laws.StructEq
import Derived.WalkKit
import Derived.WalkSpells
import Derived.WalkLawsBesides
import Derived.Deep.RegionHeld3
import Derived.IntWalk
import Derived.Lib.Hide
import Derived.KernelRfl
namespace Go.Proofs.YtminjjdnmpaaoaaGreatDoor
set_option linter.unusedVariables false

def partB (n : Int) : Bool := decide (0 ≤ n) && decide (n ≤ 999)
def verB (a b c : Int) : Bool := partB a && (partB b && partB c)
def rankI (a b c : Int) : Int := (a * 1000 + b) * 1000 + c
def rankR (a b c : Int) : Int := if verB a b c then rankI a b c else 0
theorem partB_iff {n : Int} : partB n = true ↔ 0 ≤ n ∧ n ≤ 999 := by simp [partB]
theorem verB_iff {a b c : Int} : verB a b c = true ↔ (0 ≤ a ∧ a ≤ 999) ∧ (0 ≤ b ∧ b ≤ 999) ∧ 0 ≤ c ∧ c ≤ 999 := by simp [verB, partB_iff]
theorem rank_bounds {a b c : Int} (h : verB a b c = true) : 0 ≤ rankI a b c ∧ rankI a b c ≤ 999999999 := by
  have := verB_iff.1 h; unfold rankI; omega
theorem rankR_bounds (a b c : Int) : 0 ≤ rankR a b c ∧ rankR a b c ≤ 999999999 := by
  unfold rankR; split
  · rename_i h; exact rank_bounds h
  · omega
theorem rank_major {a b c : Int} (h : verB a b c = true) : rankI a b c / 1000 / 1000 = a := by
  have := verB_iff.1 h; unfold rankI; omega
theorem rank_minor {a b c : Int} (h : verB a b c = true) : rankI a b c / 1000 % 1000 = b := by
  have := verB_iff.1 h; unfold rankI; omega
theorem rank_patch {a b c : Int} (h : verB a b c = true) : rankI a b c % 1000 = c := by
  have := verB_iff.1 h; unfold rankI; omega
theorem rank_inj {a b c a' b' c' : Int} (h : verB a b c = true) (h' : verB a' b' c' = true) (he : rankI a b c = rankI a' b' c') : a = a' ∧ b = b' ∧ c = c' := by
  have h1 := verB_iff.1 h; have h2 := verB_iff.1 h'; unfold rankI at he; omega

def Ver.ok (v : Ver) : Bool := verB v.major v.minor v.patch
def Ver.rank (v : Ver) : Int := rankR v.major v.minor v.patch

def dotB : ByteArray := ⟨#[46]⟩
def verText (a b c : Int) : ByteArray := if verB a b c then itoaB a ++ dotB ++ itoaB b ++ dotB ++ itoaB c else ⟨#[]⟩

/-- spans that rise and do not touch, from a rank on -/
def spanGo : Int → List Spn → Bool
  | _, [] => true
  | least, s :: l => (s.lo.ok && s.hi.ok && decide (least ≤ s.lo.rank) && decide (s.lo.rank ≤ s.hi.rank)) && spanGo (s.hi.rank + 2) l
def spansB (l : List Spn) : Bool := decide (l.length ≤ 64) && spanGo 0 l
end Go.Proofs.YtminjjdnmpaaoaaGreatDoor
/-
  Versions: the program's May, Rank, At, Print and the document's, walked.
-/
set_option autoImplicit false
set_option relaxedAutoImplicit false
set_option linter.unusedVariables false
set_option linter.unusedSimpArgs false
namespace Go.Proofs.YtminjjdnmpaaoaaGreatDoor
open Go.Rows Go.RowKit Go.Shelf Go.Sort

set_option maxHeartbeats 800000 in
theorem versMay_any (a b c : Int) (w : World) :
    Calls Tryz.prog 124 #[.agg #[.int .i64 a, .int .i64 b, .int .i64 c]] w fun e w' => e = .returned (.bool (verB a b c)) ∧ Below w.heap.size w w' := by
  have i0 : ∀ w, (Instr.index 217 (.agg #[.int .i64 a, .int .i64 b, .int .i64 c]) (.int .i64 0)).run Tryz.prog w = .ok (.int .i64 a) w := fun _ => by kernel_rfl
  have i1 : ∀ w, (Instr.index 217 (.agg #[.int .i64 a, .int .i64 b, .int .i64 c]) (.int .i64 1)).run Tryz.prog w = .ok (.int .i64 b) w := fun _ => by kernel_rfl
  have i2 : ∀ w, (Instr.index 217 (.agg #[.int .i64 a, .int .i64 b, .int .i64 c]) (.int .i64 2)).run Tryz.prog w = .ok (.int .i64 c) w := fun _ => by kernel_rfl
  have Hno : Hid (∀ x, (x = a ∨ x = b ∨ x = c) → (x < 0 ∨ 999 < x) → verB a b c = false) := by
    intro x hx h
    rcases hx with rfl | rfl | rfl <;> (simp [verB, partB]; omega)
  have Hyes : Hid ((0 ≤ a ∧ a ≤ 999) → (0 ≤ b ∧ b ≤ 999) → (0 ≤ c ∧ c ≤ 999) → verB a b c = true) := fun h1 h2 h3 => verB_iff.2 ⟨h1, h2, h3⟩
  generalize hv : verB a b c = v at *
  clear hv
  go_enter Tryz.func124, Tryz.ntmps124
  go_wp2_with fail
  go_loop [12] (fun i => (i = .int .i64 0) ∨ (i = .int .i64 1 ∧ Hid (0 ≤ a ∧ a ≤ 999)) ∨ (i = .int .i64 2 ∧ Hid (0 ≤ a ∧ a ≤ 999) ∧ Hid (0 ≤ b ∧ b ≤ 999)) ∨ (i = .int .i64 3 ∧ Hid (0 ≤ a ∧ a ≤ 999) ∧ Hid (0 ≤ b ∧ b ≤ 999) ∧ Hid (0 ≤ c ∧ c ≤ 999))) (fun i => 3 - (intOf i).toNat)
  case atStart => exact .inl rfl
  case round =>
    rcases hrel with rfl | ⟨rfl, h1⟩ | ⟨rfl, h1, h2⟩ | ⟨rfl, h1, h2, h3⟩
    · by_cases g1 : a < 0
      · go_wp2_with fail
        go_ret
        exact ⟨ret_bool (Hno.out a (.inl rfl) (.inl g1)).symm, bal (Below.refl _ _) _⟩
      · by_cases g2 : 999 < a
        · go_wp2_with fail
          go_ret
          exact ⟨ret_bool (Hno.out a (.inl rfl) (.inr g2)).symm, bal (Below.refl _ _) _⟩
        · go_wp2_with fail
          go_round
          case rel => exact .inr (.inl ⟨rfl, ⟨by omega, by omega⟩⟩)
          case measure => simp [intOf]
    · by_cases g1 : b < 0
      · go_wp2_with fail
        go_ret
        exact ⟨ret_bool (Hno.out b (.inr (.inl rfl)) (.inl g1)).symm, bal (Below.refl _ _) _⟩
      · by_cases g2 : 999 < b
        · go_wp2_with fail
          go_ret
          exact ⟨ret_bool (Hno.out b (.inr (.inl rfl)) (.inr g2)).symm, bal (Below.refl _ _) _⟩
        · go_wp2_with fail
          go_round
          case rel => exact .inr (.inr (.inl ⟨rfl, h1, ⟨by omega, by omega⟩⟩))
          case measure => simp [intOf]
    · by_cases g1 : c < 0
      · go_wp2_with fail
        go_ret
        exact ⟨ret_bool (Hno.out c (.inr (.inr rfl)) (.inl g1)).symm, bal (Below.refl _ _) _⟩
      · by_cases g2 : 999 < c
        · go_wp2_with fail
          go_ret
          exact ⟨ret_bool (Hno.out c (.inr (.inr rfl)) (.inr g2)).symm, bal (Below.refl _ _) _⟩
        · go_wp2_with fail
          go_round
          case rel => exact .inr (.inr (.inr ⟨rfl, h1, h2, ⟨by omega, by omega⟩⟩))
          case measure => simp [intOf]
    · go_wp2_with fail
      go_ret
      exact ⟨ret_bool (Hyes.out h1.out h2.out h3.out).symm, bal (Below.refl _ _) _⟩

theorem refPart_any (n : Int) (w : World) : Calls Tryz.prog 138 #[.int .i64 n] w fun e w' => e = .returned (.bool (partB n)) ∧ w = w' := by
  by_cases g1 : 0 ≤ n
  · by_cases g2 : n ≤ 999
    · have H : Hid (partB n = true) := partB_iff.2 ⟨g1, g2⟩
      go_enter Tryz.func138, Tryz.ntmps138
      go_wp2_with fail
      go_ret
      exact ⟨ret_bool H.out.symm, rfl⟩
    · have H : Hid (partB n = false) := by simp [Hid, partB]; omega
      go_enter Tryz.func138, Tryz.ntmps138
      go_wp2_with fail
      go_ret
      exact ⟨ret_bool H.out.symm, rfl⟩
  · have H : Hid (partB n = false) := by simp [Hid, partB]; omega
    go_enter Tryz.func138, Tryz.ntmps138
    go_wp2_with fail
    go_ret
    exact ⟨ret_bool H.out.symm, rfl⟩

theorem refVerMay_any (a b c : Int) (w : World) :
    Calls Tryz.prog 104 #[.agg #[.int .i64 a, .int .i64 b, .int .i64 c]] w fun e w' => e = .returned (.bool (verB a b c)) ∧ Below w.heap.size w w' := by
  have Ha : Hid (∀ W, Calls Tryz.prog 138 #[.int .i64 a] W fun e w' => e = .returned (.bool (partB a)) ∧ W = w') := fun W => refPart_any a W
  have Hb : Hid (∀ W, Calls Tryz.prog 138 #[.int .i64 b] W fun e w' => e = .returned (.bool (partB b)) ∧ W = w') := fun W => refPart_any b W
  have Hc : Hid (∀ W, Calls Tryz.prog 138 #[.int .i64 c] W fun e w' => e = .returned (.bool (partB c)) ∧ W = w') := fun W => refPart_any c W
  have Hv : Hid (verB a b c = (partB a && (partB b && partB c))) := rfl
  generalize verB a b c = v at *
  generalize partB a = pa at *
  generalize partB b = pb at *
  generalize partB c = pc at *
  cases pa
  · go_enter Tryz.func104, Tryz.ntmps104
    go_wp2_with fail
    refine (Ha.out _).mono ?_
    rintro e w1 ⟨rfl, rfl⟩
    go_wp2_with fail
    go_ret
    exact ⟨ret_bool (by rw [Hv.out]; rfl), bal (Below.refl _ _) _⟩
  · cases pb
    · go_enter Tryz.func104, Tryz.ntmps104
      go_wp2_with fail
      refine (Ha.out _).mono ?_
      rintro e w1 ⟨rfl, rfl⟩
      go_wp2_with fail
      refine (Hb.out _).mono ?_
      rintro e w2 ⟨rfl, rfl⟩
      go_wp2_with fail
      go_ret
      exact ⟨ret_bool (by rw [Hv.out]; rfl), bal (Below.refl _ _) _⟩
    · go_enter Tryz.func104, Tryz.ntmps104
      go_wp2_with fail
      refine (Ha.out _).mono ?_
      rintro e w1 ⟨rfl, rfl⟩
      go_wp2_with fail
      refine (Hb.out _).mono ?_
      rintro e w2 ⟨rfl, rfl⟩
      go_wp2_with fail
      refine (Hc.out _).mono ?_
      rintro e w3 ⟨rfl, rfl⟩
      go_wp2_with fail
      go_ret
      exact ⟨ret_bool (by rw [Hv.out]; simp), bal (Below.refl _ _) _⟩

set_option maxHeartbeats 800000 in
theorem versRank_any (a b c : Int) (w : World) :
    Calls Tryz.prog 172 #[.agg #[.int .i64 a, .int .i64 b, .int .i64 c]] w fun e w' => e = .returned (.tuple #[.int .i64 (rankR a b c), .bool (verB a b c)]) ∧ Below w.heap.size w w' := by
  have Hm : Hid (∀ W, Calls Tryz.prog 124 #[.agg #[.int .i64 a, .int .i64 b, .int .i64 c]] W fun e w' => e = .returned (.bool (verB a b c)) ∧ Below W.heap.size W w') := fun W => versMay_any a b c W
  cases hv : verB a b c
  · have Hr : Hid (rankR a b c = 0) := by unfold Hid rankR; rw [hv]; rfl
    rw [hv] at Hm
    clear hv
    generalize rankR a b c = r at *
    go_enter Tryz.func172, Tryz.ntmps172
    go_wp2_with fail
    refine (Hm.out _).mono ?_
    rintro e w1 ⟨rfl, hb1⟩
    have B := bnew hb1
    clear hb1
    go_wp2_with fail
    go_ret2
    exact ⟨by rw [Hr.out]; rfl, B⟩
  · have Hr : Hid (rankR a b c = (a * 1000 + b) * 1000 + c) := by unfold Hid rankR; rw [hv]; rfl
    rw [hv] at Hm
    obtain ⟨⟨h1, h2⟩, ⟨h3, h4⟩, h5, h6⟩ := verB_iff.1 hv
    clear hv
    generalize rankR a b c = r at *
    go_enter Tryz.func172, Tryz.ntmps172
    go_wp2_with fail
    refine (Hm.out _).mono ?_
    rintro e w1 ⟨rfl, hb1⟩
    have e0 := hb1.cell (p := ⟨w.heap.size, 0, none⟩) (by simp)
    have e1 := hb1.cell (p := ⟨w.heap.size, 1, none⟩) (by simp)
    have e2 := hb1.cell (p := ⟨w.heap.size, 2, none⟩) (by simp)
    simp [go_sem] at e0 e1 e2
    have B := bnew hb1
    clear hb1
    go_wp2_with fail
    go_ret2
    exact ⟨by rw [Hr.out]; rfl, B⟩

set_option maxHeartbeats 800000 in
theorem refVerRank_any (a b c : Int) (w : World) :
    Calls Tryz.prog 176 #[.agg #[.int .i64 a, .int .i64 b, .int .i64 c]] w fun e w' => e = .returned (.tuple #[.int .i64 (rankR a b c), .bool (verB a b c)]) ∧ Below w.heap.size w w' := by
  have Hm : Hid (∀ W, Calls Tryz.prog 104 #[.agg #[.int .i64 a, .int .i64 b, .int .i64 c]] W fun e w' => e = .returned (.bool (verB a b c)) ∧ Below W.heap.size W w') := fun W => refVerMay_any a b c W
  cases hv : verB a b c
  · have Hr : Hid (rankR a b c = 0) := by unfold Hid rankR; rw [hv]; rfl
    rw [hv] at Hm
    clear hv
    generalize rankR a b c = r at *
    go_enter Tryz.func176, Tryz.ntmps176
    go_wp2_with fail
    refine (Hm.out _).mono ?_
    rintro e w1 ⟨rfl, hb1⟩
    have B := bnew hb1
    clear hb1
    go_wp2_with fail
    go_ret2
    exact ⟨by rw [Hr.out]; rfl, B⟩
  · have Hr : Hid (rankR a b c = (a * 1000 + b) * 1000 + c) := by unfold Hid rankR; rw [hv]; rfl
    rw [hv] at Hm
    obtain ⟨⟨h1, h2⟩, ⟨h3, h4⟩, h5, h6⟩ := verB_iff.1 hv
    clear hv
    generalize rankR a b c = r at *
    go_enter Tryz.func176, Tryz.ntmps176
    go_wp2_with fail
    refine (Hm.out _).mono ?_
    rintro e w1 ⟨rfl, hb1⟩
    have e0 := hb1.cell (p := ⟨w.heap.size, 0, none⟩) (by simp)
    have e1 := hb1.cell (p := ⟨w.heap.size, 1, none⟩) (by simp)
    have e2 := hb1.cell (p := ⟨w.heap.size, 2, none⟩) (by simp)
    simp [go_sem] at e0 e1 e2
    have B := bnew hb1
    clear hb1
    go_wp2_with fail
    go_ret2
    exact ⟨by rw [Hr.out]; rfl, B⟩

theorem refRank_any (a b c : Int) (w : World) :
    Calls Tryz.prog 160 #[.agg #[.int .i64 a, .int .i64 b, .int .i64 c]] w fun e w' => e = .returned (.int .i64 (rankR a b c)) ∧ Below w.heap.size w w' := by
  have Hm : Hid (∀ W, Calls Tryz.prog 176 #[.agg #[.int .i64 a, .int .i64 b, .int .i64 c]] W fun e w' => e = .returned (.tuple #[.int .i64 (rankR a b c), .bool (verB a b c)]) ∧ Below W.heap.size W w') := fun W => refVerRank_any a b c W
  generalize rankR a b c = r at *
  generalize verB a b c = v at *
  go_enter Tryz.func160, Tryz.ntmps160
  go_wp2_with fail
  refine (Hm.out _).mono ?_
  rintro e w1 ⟨rfl, hb1⟩
  go_wp2_with fail
  go_ret
  exact ⟨rfl, bnew hb1⟩

set_option maxHeartbeats 800000 in
/-- the version at a rank -/
theorem versAt_any (n : Int) (h0 : 0 ≤ n) (h1 : n ≤ 999999999) (w : World) :
    Calls Tryz.prog 189 #[.int .i64 n] w fun e w' => e = .returned (.tuple #[.agg #[.int .i64 (n / 1000 / 1000), .int .i64 (n / 1000 % 1000), .int .i64 (n % 1000)], .bool true]) ∧ Below w.heap.size w w' := by
  have h2 : ¬ n < 0 := by omega
  have h3 : n < 1000000000 := by omega
  have q0 : 0 ≤ n / 1000 := by omega
  go_enter Tryz.func189, Tryz.ntmps189
  go_wp2_with fail
  refine bodyPost_ret (v := .tuple #[.agg #[.int .i64 (n / 1000 / 1000), .int .i64 (n / 1000 % 1000), .int .i64 (n % 1000)], .bool true]) (by simp [results, Tryz.results189, go_sem]) rfl ⟨rfl, ?_⟩
  exact bal (Below.refl _ _) _

/-- a version's texts -/
theorem verText_size {a b c : Int} (h : verB a b c = true) : (itoaB a).size ≤ 3 ∧ (itoaB b).size ≤ 3 ∧ (itoaB c).size ≤ 3 := by
  have key : ∀ n : Int, 0 ≤ n → n ≤ 999 → (itoaB n).size ≤ 3 := by
    intro n h0 h1
    have : n.toNat < 1000 := by omega
    have e : itoaB n = ⟨(Lib.decDigits n.toNat).toArray⟩ := by unfold itoaB Lib.itoa; rw [if_neg (by omega)]
    rw [e]
    show (Lib.decDigits n.toNat).toArray.size ≤ 3
    simp only [List.size_toArray]
    have hd : ∀ k : Fin 1000, (Lib.decDigits k.val).length ≤ 3 := by decide +kernel
    exact hd ⟨n.toNat, this⟩
  have := verB_iff.1 h
  exact ⟨key _ (by omega) (by omega), key _ (by omega) (by omega), key _ (by omega) (by omega)⟩

set_option maxHeartbeats 800000 in
set_option maxRecDepth 100000 in
theorem versPrint_any (a b c : Int) (w : World) (ht : Tab w) :
    Calls Tryz.prog 155 #[.agg #[.int .i64 a, .int .i64 b, .int .i64 c]] w fun e w' => e = .returned (.string (verText a b c)) ∧ Below w.heap.size w w' := by
  have Hm : Hid (∀ W, Calls Tryz.prog 124 #[.agg #[.int .i64 a, .int .i64 b, .int .i64 c]] W fun e w' => e = .returned (.bool (verB a b c)) ∧ Below W.heap.size W w') := fun W => versMay_any a b c W
  cases hv : verB a b c
  · have Hr : Hid (verText a b c = ⟨#[]⟩) := by unfold Hid verText; rw [hv]; rfl
    rw [hv] at Hm
    clear hv
    generalize verText a b c = r at *
    go_enter Tryz.func155, Tryz.ntmps155
    go_wp2_with fail
    refine (Hm.out _).mono ?_
    rintro e w1 ⟨rfl, hb1⟩
    go_wp2_with fail
    go_ret
    exact ⟨ret_str Hr.out.symm, bnew hb1⟩
  · have Hr : Hid (verText a b c = itoaB a ++ dotB ++ itoaB b ++ dotB ++ itoaB c) := by unfold Hid verText; rw [hv]; rfl
    rw [hv] at Hm
    obtain ⟨s1, s2, s3⟩ := verText_size hv
    obtain ⟨⟨h1, h2⟩, ⟨h3, h4⟩, h5, h6⟩ := verB_iff.1 hv
    have Ht := Lib.hid ht
    have z : dotB.size = 1 := rfl
    clear hv ht
    generalize verText a b c = r at *
    have A1 : ∀ W : World, (Op.stringOp .add (itoaB a) ⟨#[46]⟩).run Tryz.prog W = .ok (.string (itoaB a ++ dotB)) W := fun W => run_string_add_sum W _ dotB (by omega)
    have A2 : ∀ W : World, (Op.stringOp .add (itoaB a ++ dotB) (itoaB b)).run Tryz.prog W = .ok (.string (itoaB a ++ dotB ++ itoaB b)) W := fun W => run_string_add_sum W _ _ (by simp only [ByteArray.size_append]; omega)
    have A3 : ∀ W : World, (Op.stringOp .add (itoaB a ++ dotB ++ itoaB b) ⟨#[46]⟩).run Tryz.prog W = .ok (.string (itoaB a ++ dotB ++ itoaB b ++ dotB)) W := fun W => run_string_add_sum W _ dotB (by simp only [ByteArray.size_append]; omega)
    have A4 : ∀ W : World, (Op.stringOp .add (itoaB a ++ dotB ++ itoaB b ++ dotB) (itoaB c)).run Tryz.prog W = .ok (.string r) W := fun W => by rw [Hr.out]; exact run_string_add_sum W _ _ (by simp only [ByteArray.size_append]; omega)
    clear z
    go_enter Tryz.func155, Tryz.ntmps155
    go_wp2_with fail
    refine (Hm.out _).mono ?_
    rintro e w1 ⟨rfl, hb1⟩
    have e0 := hb1.cell (p := ⟨w.heap.size, 0, none⟩) (by simp)
    have e1 := hb1.cell (p := ⟨w.heap.size, 1, none⟩) (by simp)
    have e2 := hb1.cell (p := ⟨w.heap.size, 2, none⟩) (by simp)
    simp [go_sem] at e0 e1 e2
    have B := bnew hb1
    have Ht1 : Hid (Tab w1) := tab_below Ht.out B
    have Hc0 := Lib.hid (qcall (w := w1) (fun W hW => itoa_any a ⟨by omega, by omega⟩ W (tab_below Ht1.out hW)))
    have Hc1 := Lib.hid (qcall (w := w1) (fun W hW => itoa_any b ⟨by omega, by omega⟩ W (tab_below Ht1.out hW)))
    have Hc2 := Lib.hid (qcall (w := w1) (fun W hW => itoa_any c ⟨by omega, by omega⟩ W (tab_below Ht1.out hW)))
    clear hb1
    have r_e0 := cell_regrown e0
    have r_e1 := cell_regrown e1
    have r_e2 := cell_regrown e2
    go_wp2_with fail
    refine wp_region_qb (by kernel_rfl) (by kernel_rfl) ?_
    repeat (go_big_quiet_step (first | (with_reducible exact Hc0.out _ _) | (with_reducible exact Hc1.out _ _) | (with_reducible exact Hc2.out _ _)))
    refine wpQuiet_nil ?_
    intro w2 B2
    go_wp2_with fail
    go_ret
    exact ⟨rfl, bot B B2⟩
end Go.Proofs.YtminjjdnmpaaoaaGreatDoor
/-
  The document's Number and Print of a version, walked.
-/
set_option autoImplicit false
set_option relaxedAutoImplicit false
set_option linter.unusedVariables false
set_option linter.unusedSimpArgs false
namespace Go.Proofs.YtminjjdnmpaaoaaGreatDoor
open Go.Rows Go.RowKit Go.Shelf Go.Sort

theorem conv2_digit (W : World) (b d : Nat) (hd : d < 10) (h : W.cell? ⟨b, 0, none⟩ = some (.int .u8 (48 + (d : Int)))) :
    (convert 105 9 (.slice (some ⟨b, 0, none⟩) 1 1)).run Tryz.prog W = .ok (.string ⟨#[48 + UInt8.ofNat d]⟩) W := by
  rw [← of48]
  refine run_convert_bytes_back W 105 9 5 ⟨b, 0, none⟩ 1 [UInt8.ofNat (48 + d)] Tryz.underlying105 Tryz.underlying5 Tryz.underlying9 ?_
  intro j hj
  have hj0 : j = 0 := by simp at hj; exact hj
  subst hj0
  show W.cell? ⟨b, 0, none⟩ = _
  rw [h]
  have : (UInt8.ofNat (48 + d)).toNat = 48 + d := by simp; omega
  simp only [List.getElem_cons_zero, this]
  rfl
theorem conv2_after (w W : World) (d : Nat) (hd : d < 10) (h : Below (w.alloc (.cells #[.int .u8 (48 + (d : Int))] 5)).drew.heap.size (w.alloc (.cells #[.int .u8 (48 + (d : Int))] 5)).drew W) :
    (convert 105 9 (.slice (some ⟨w.heap.size, 0, none⟩) 1 1)).run Tryz.prog W = .ok (.string ⟨#[48 + UInt8.ofNat d]⟩) W :=
  conv2_digit W _ d hd (below_cell h (by simp) (by simp))
theorem conv2_here (w : World) (d : Nat) (hd : d < 10) :
    (convert 105 9 (.slice (some ⟨w.heap.size, 0, none⟩) 1 1)).run Tryz.prog (w.alloc (.cells #[.int .u8 (48 + (d : Int))] 5)) = .ok (.string ⟨#[48 + UInt8.ofNat d]⟩) (w.alloc (.cells #[.int .u8 (48 + (d : Int))] 5)) :=
  conv2_digit _ _ d hd (by simp)
theorem conv2_here_drew (w : World) (d : Nat) (hd : d < 10) :
    (convert 105 9 (.slice (some ⟨w.heap.size, 0, none⟩) 1 1)).run Tryz.prog (w.alloc (.cells #[.int .u8 (48 + (d : Int))] 5)).drew = .ok (.string ⟨#[48 + UInt8.ofNat d]⟩) (w.alloc (.cells #[.int .u8 (48 + (d : Int))] 5)).drew :=
  conv2_digit _ _ d hd (by simp)

def Number2Ok (u : Nat) : Prop := ∀ w : World, Calls Tryz.prog 161 #[.int .i64 u] w fun e w' => e = .returned (.string (decB u)) ∧ Below w.heap.size w w'

set_option maxHeartbeats 800000 in
set_option maxRecDepth 100000 in
theorem number2_small (u : Nat) (h : u < 10) : Number2Ok u := by
  intro w
  have hlt : (u : Int) < 10 := by omega
  have hu0 : (0 : Int) ≤ u := by omega
  have hE := Lib.hid (decB_small h)
  have h1 : IntKind.u8.wrap (48 + (u : Int)) = 48 + (u : Int) := IntWalk.u8_in _ ⟨by omega, by omega⟩
  go_enter Tryz.func161, Tryz.ntmps161
  go_wp2_with fail
  rw [conv2_digit _ _ u h (by simp)]
  simp only [Result.andThen]
  rw [Oper.upon_value]
  go_wp2_with fail
  go_ret
  exact ⟨ret_str hE.out.symm, (Below.refl _ _).alloc (Nat.le_refl _) _⟩

set_option maxHeartbeats 800000 in
set_option maxRecDepth 100000 in
theorem number2_step (u : Nat) (h : ¬ u < 10) (hu : u ≤ 9223372036854775807) (ih : Number2Ok (u / 10)) : Number2Ok u := by
  intro w
  have hlt : (10 : Int) ≤ u := by omega
  have hu0 : (0 : Int) ≤ u := by omega
  have hu1 : (u : Int) ≤ 9223372036854775807 := by omega
  have hE := Lib.hid (decB_step h)
  have Hih := Lib.hid ih
  have hz : (decB (u / 10)).size + (⟨#[48 + UInt8.ofNat (u % 10)]⟩ : ByteArray).size ≤ 9223372036854775807 := by
    have := decB_size (u / 10)
    have h1 : (⟨#[48 + UInt8.ofNat (u % 10)]⟩ : ByteArray).size = 1 := rfl
    rw [h1]; omega
  have HZ := Lib.hid hz; clear hz
  clear ih
  have hqw : IntKind.i64.wrap ((u / 10 : Nat) : Int) = ((u / 10 : Nat) : Int) := IntWalk.i64_in _ ⟨by omega, by omega⟩
  have hq' : (u : Int) / 10 = ((u / 10 : Nat) : Int) := by omega
  have hr : (u : Int).tmod 10 = ((u % 10 : Nat) : Int) := by rw [Int.tmod_eq_emod_of_nonneg hu0]; omega
  have hr' : (u : Int) % 10 = ((u % 10 : Nat) : Int) := by omega
  have hm : u % 10 < 10 := by omega
  have h1 : IntKind.i64.wrap (48 + ((u % 10 : Nat) : Int)) = 48 + ((u % 10 : Nat) : Int) := IntWalk.i64_in _ ⟨by omega, by omega⟩
  have h2 : IntKind.u8.wrap (48 + ((u % 10 : Nat) : Int)) = 48 + ((u % 10 : Nat) : Int) := IntWalk.u8_in _ ⟨by omega, by omega⟩
  generalize hqq : u / 10 = q at *
  generalize hrr : u % 10 = r at *
  clear h hu hqq hrr
  go_enter Tryz.func161, Tryz.ntmps161
  go_wp2_with fail
  have hc1 := fun W : World => conv2_here W r hm
  have hc2 := fun W : World => conv2_here_drew W r hm
  have hadd : ∀ W : World, (Op.stringOp .add (decB q) ⟨#[48 + UInt8.ofNat r]⟩).run Tryz.prog W = .ok (.string (decB u)) W := fun W => by rw [hE.out]; exact run_string_add_sum W _ _ HZ.out
  go_region_with (go_at_call 161; refine (Hih.out _).mono ?_; rintro e w1 ⟨rfl, hb1⟩; try have hcv := conv2_after _ _ _ hm hb1)
  all_goals go_wp2_with fail
  all_goals go_ret
  all_goals first
    | exact ⟨rfl, ((Below.refl _ w).drew.trans hb1).alloc hb1.size _⟩
    | exact ⟨rfl, ((Below.refl _ w).alloc (Nat.le_refl _) _).drew.trans (hb1.mono (by simp))⟩

theorem number2_any : ∀ (u : Nat), u ≤ 9223372036854775807 → Number2Ok u := by
  intro u
  induction u using Nat.strongRecOn with
  | _ u ih =>
    intro hu
    by_cases h : u < 10
    · exact number2_small u h
    · exact number2_step u h hu (ih (u / 10) (by omega) (by omega))

theorem refNumber_any (n : Int) (h0 : 0 ≤ n) (h1 : n ≤ 9223372036854775807) (w : World) :
    Calls Tryz.prog 161 #[.int .i64 n] w fun e w' => e = .returned (.string (itoaB n)) ∧ Below w.heap.size w w' := by
  have h := number2_any n.toNat (by omega) w
  rw [show ((n.toNat : Nat) : Int) = n from by omega, ← itoaB_pos (by omega)] at h
  exact h

set_option maxHeartbeats 800000 in
set_option maxRecDepth 100000 in
theorem refVerPrint_any (a b c : Int) (w : World) :
    Calls Tryz.prog 141 #[.agg #[.int .i64 a, .int .i64 b, .int .i64 c]] w fun e w' => e = .returned (.string (verText a b c)) ∧ Below w.heap.size w w' := by
  have Hm : Hid (∀ W, Calls Tryz.prog 104 #[.agg #[.int .i64 a, .int .i64 b, .int .i64 c]] W fun e w' => e = .returned (.bool (verB a b c)) ∧ Below W.heap.size W w') := fun W => refVerMay_any a b c W
  cases hv : verB a b c
  · have Hr : Hid (verText a b c = ⟨#[]⟩) := by unfold Hid verText; rw [hv]; rfl
    rw [hv] at Hm
    clear hv
    generalize verText a b c = r at *
    go_enter Tryz.func141, Tryz.ntmps141
    go_wp2_with fail
    refine (Hm.out _).mono ?_
    rintro e w1 ⟨rfl, hb1⟩
    go_wp2_with fail
    go_ret
    exact ⟨ret_str Hr.out.symm, bnew hb1⟩
  · have Hr : Hid (verText a b c = itoaB a ++ dotB ++ itoaB b ++ dotB ++ itoaB c) := by unfold Hid verText; rw [hv]; rfl
    rw [hv] at Hm
    obtain ⟨s1, s2, s3⟩ := verText_size hv
    obtain ⟨⟨h1, h2⟩, ⟨h3, h4⟩, h5, h6⟩ := verB_iff.1 hv
    have z : dotB.size = 1 := rfl
    clear hv
    generalize verText a b c = r at *
    have A1 : ∀ W : World, (Op.stringOp .add (itoaB a) ⟨#[46]⟩).run Tryz.prog W = .ok (.string (itoaB a ++ dotB)) W := fun W => run_string_add_sum W _ dotB (by omega)
    have A2 : ∀ W : World, (Op.stringOp .add (itoaB a ++ dotB) (itoaB b)).run Tryz.prog W = .ok (.string (itoaB a ++ dotB ++ itoaB b)) W := fun W => run_string_add_sum W _ _ (by simp only [ByteArray.size_append]; omega)
    have A3 : ∀ W : World, (Op.stringOp .add (itoaB a ++ dotB ++ itoaB b) ⟨#[46]⟩).run Tryz.prog W = .ok (.string (itoaB a ++ dotB ++ itoaB b ++ dotB)) W := fun W => run_string_add_sum W _ dotB (by simp only [ByteArray.size_append]; omega)
    have A4 : ∀ W : World, (Op.stringOp .add (itoaB a ++ dotB ++ itoaB b ++ dotB) (itoaB c)).run Tryz.prog W = .ok (.string r) W := fun W => by rw [Hr.out]; exact run_string_add_sum W _ _ (by simp only [ByteArray.size_append]; omega)
    clear z
    go_enter Tryz.func141, Tryz.ntmps141
    go_wp2_with fail
    refine (Hm.out _).mono ?_
    rintro e w1 ⟨rfl, hb1⟩
    have e0 := hb1.cell (p := ⟨w.heap.size, 0, none⟩) (by simp)
    have e1 := hb1.cell (p := ⟨w.heap.size, 1, none⟩) (by simp)
    have e2 := hb1.cell (p := ⟨w.heap.size, 2, none⟩) (by simp)
    simp [go_sem] at e0 e1 e2
    have B := bnew hb1
    have Hc0 := Lib.hid (qcall (w := w1) (fun W hW => refNumber_any a (by omega) (by omega) W))
    have Hc1 := Lib.hid (qcall (w := w1) (fun W hW => refNumber_any b (by omega) (by omega) W))
    have Hc2 := Lib.hid (qcall (w := w1) (fun W hW => refNumber_any c (by omega) (by omega) W))
    clear hb1
    have r_e0 := cell_regrown e0
    have r_e1 := cell_regrown e1
    have r_e2 := cell_regrown e2
    go_wp2_with fail
    refine wp_region_qb (by kernel_rfl) (by kernel_rfl) ?_
    repeat (go_big_quiet_step (first | (with_reducible exact Hc0.out _ _) | (with_reducible exact Hc1.out _ _) | (with_reducible exact Hc2.out _ _)))
    refine wpQuiet_nil ?_
    intro w2 B2
    go_wp2_with fail
    go_ret
    exact ⟨rfl, bot B B2⟩
end Go.Proofs.YtminjjdnmpaaoaaGreatDoor
