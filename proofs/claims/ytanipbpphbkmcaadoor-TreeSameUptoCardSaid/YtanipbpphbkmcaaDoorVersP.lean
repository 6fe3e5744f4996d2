/-
  Versions and their sets in plain words: what may be, ranks, texts.
-/
import Derived.Test.YtanipbpphbkmcaaDoorData
import Derived.Test.YtanipbpphbkmcaaDoorNumP
namespace Go.Proofs.YtanipbpphbkmcaaDoor
set_option linter.unusedVariables false

def partB (n : Int) : Bool := decide (0 ≤ n) && decide (n ≤ 999)
def verB (a b c : Int) : Bool := partB a && (partB b && partB c)
def rankI (a b c : Int) : Int := (a * 1000 + b) * 1000 + c
def rankR (a b c : Int) : Int := if verB a b c then rankI a b c else 0
theorem partB_iff {n : Int} : partB n = true ↔ 0 ≤ n ∧ n ≤ 999 := by simp [partB]
theorem verB_iff {a b c : Int} : verB a b c = true ↔ (0 ≤ a ∧ a ≤ 999) ∧ (0 ≤ b ∧ b ≤ 999) ∧ 0 ≤ c ∧ c ≤ 999 := by simp [verB, partB_iff]
theorem rank_bounds {a b c : Int} (h : verB a b c = true) : 0 ≤ rankI a b c ∧ rankI a b c ≤ 999999999 := by
  have := verB_iff.1 h; unfold rankI; omega
theorem rankR_bounds (a b c : Int) : 0 ≤ rankR a b c ∧ rankR a b c ≤ 999999999 := by
  unfold rankR; split
  · rename_i h; exact rank_bounds h
  · omega
theorem rank_major {a b c : Int} (h : verB a b c = true) : rankI a b c / 1000 / 1000 = a := by
  have := verB_iff.1 h; unfold rankI; omega
theorem rank_minor {a b c : Int} (h : verB a b c = true) : rankI a b c / 1000 % 1000 = b := by
  have := verB_iff.1 h; unfold rankI; omega
theorem rank_patch {a b c : Int} (h : verB a b c = true) : rankI a b c % 1000 = c := by
  have := verB_iff.1 h; unfold rankI; omega
theorem rank_inj {a b c a' b' c' : Int} (h : verB a b c = true) (h' : verB a' b' c' = true) (he : rankI a b c = rankI a' b' c') : a = a' ∧ b = b' ∧ c = c' := by
  have h1 := verB_iff.1 h; have h2 := verB_iff.1 h'; unfold rankI at he; omega

def Ver.ok (v : Ver) : Bool := verB v.major v.minor v.patch
def Ver.rank (v : Ver) : Int := rankR v.major v.minor v.patch

def dotB : ByteArray := ⟨#[46]⟩
def verText (a b c : Int) : ByteArray := if verB a b c then itoaB a ++ dotB ++ itoaB b ++ dotB ++ itoaB c else ⟨#[]⟩

/-- spans that rise and do not touch, from a rank on -/
def spanGo : Int → List Spn → Bool
  | _, [] => true
  | least, s :: l => (s.lo.ok && s.hi.ok && decide (least ≤ s.lo.rank) && decide (s.lo.rank ≤ s.hi.rank)) && spanGo (s.hi.rank + 2) l
def spansB (l : List Spn) : Bool := decide (l.length ≤ 64) && spanGo 0 l
end Go.Proofs.YtanipbpphbkmcaaDoor
