/-
  The plain law of names: what the library's Trim and TrimLeft tell of a text is that it is a name.
-/
import Derived.Lib.SlTrimSet
import Derived.Test.YtghihopmiagcpaaGreatDoorRows
import Derived.Test.YtghihopmiagcpaaGreatDoorOwn
import Derived.Test.YtghihopmiagcpaaGreatDoorPlain
import Derived.Test.YtghihopmiagcpaaGreatDoorShelf
import Derived.WalkKit
import Derived.WalkSpells
import Derived.WalkLawsBesides
import Derived.IntWalk
import Derived.Lib.Hide
namespace Go.Proofs.YtghihopmiagcpaaGreatDoor
set_option linter.unusedVariables false
set_option linter.unusedSimpArgs false

def lowerC (b : UInt8) : Bool := decide (97 ≤ b.toNat) && decide (b.toNat ≤ 122)
def otherC (b : UInt8) : Bool := (decide (48 ≤ b.toNat) && decide (b.toNat ≤ 57)) || decide (b.toNat = 45)
def nameC (b : UInt8) : Bool := lowerC b || otherC b
/-- may a name be -/
def nameL : List UInt8 → Bool
  | [] => false
  | c :: t => lowerC c && t.all nameC && decide (t.length + 1 ≤ 16)

def lowers : List UInt8 := [97, 98, 99, 100, 101, 102, 103, 104, 105, 106, 107, 108, 109, 110, 111, 112, 113, 114, 115, 116, 117, 118, 119, 120, 121, 122]
def nameSet : List UInt8 := [97, 98, 99, 100, 101, 102, 103, 104, 105, 106, 107, 108, 109, 110, 111, 112, 113, 114, 115, 116, 117, 118, 119, 120, 121, 122, 48, 49, 50, 51, 52, 53, 54, 55, 56, 57, 45]

theorem all_bytes {p : UInt8 → Bool} (h : ∀ n : Fin 256, p (UInt8.ofNat n.val) = true) (b : UInt8) : p b = true := by
  have := h ⟨b.toNat, b.toNat_lt⟩
  simpa using this
theorem lowers_spec (b : UInt8) : lowers.contains b = lowerC b := by
  have h : ∀ b : UInt8, (lowers.contains b == lowerC b) = true := all_bytes (by decide +kernel)
  simpa using h b
theorem nameSet_spec (b : UInt8) : nameSet.contains b = nameC b := by
  have h : ∀ b : UInt8, (nameSet.contains b == nameC b) = true := all_bytes (by decide +kernel)
  simpa using h b

theorem dropWhile_nil {p : UInt8 → Bool} : ∀ {l : List UInt8}, l.dropWhile p = [] ↔ l.all p = true := by
  intro l
  induction l with
  | nil => simp
  | cons x l ih =>
    by_cases h : p x = true
    · rw [List.dropWhile_cons_of_pos h, List.all_cons, h, Bool.true_and]; exact ih
    · rw [List.dropWhile_cons_of_neg h]; simp [h]
theorem trimS_nil (l cs : List UInt8) : Lib.trimS l cs = [] ↔ l.all (cs.contains ·) = true := by
  unfold Lib.trimS Lib.trimLeftS Lib.trimRightS
  rw [dropWhile_nil]
  constructor
  · intro h
    by_cases hn : (l.reverse.dropWhile (cs.contains ·)) = []
    · have := dropWhile_nil.1 hn
      simpa using this
    · exfalso
      obtain ⟨x, t, hx⟩ := List.exists_cons_of_ne_nil hn
      have h1 : cs.contains x = true := by
        have := List.all_eq_true.1 h x (by rw [hx]; simp)
        exact this
      have h2 : ∀ (l : List UInt8), l.dropWhile (cs.contains ·) = x :: t → cs.contains x = false := by
        intro l
        induction l with
        | nil => intro h; simp at h
        | cons y l ih =>
          intro h
          by_cases hy : cs.contains y = true
          · rw [List.dropWhile_cons_of_pos hy] at h; exact ih h
          · rw [List.dropWhile_cons_of_neg hy] at h
            injection h with h3 h4
            subst h3
            simpa using hy
      rw [h2 _ hx] at h1
      cases h1
  · intro h
    have : l.reverse.dropWhile (cs.contains ·) = [] := dropWhile_nil.2 (by simpa using h)
    rw [this]; rfl

/-- the four tests of the program's Name -/
theorem name_tests (l : List UInt8) (h0 : l ≠ []) (h16 : l.length ≤ 16) :
    (Lib.trimLeftS l lowers = l → nameL l = false) ∧ (Lib.trimLeftS l lowers ≠ l → nameL l = (Lib.trimS (Lib.trimLeftS l lowers) nameSet).isEmpty) := by
  cases l with
  | nil => exact absurd rfl h0
  | cons c t =>
    by_cases hc : lowerC c = true
    · have hd : Lib.trimLeftS (c :: t) lowers = t.dropWhile lowerC := by
        unfold Lib.trimLeftS
        have : (fun x => lowers.contains x) = lowerC := funext lowers_spec
        rw [this, List.dropWhile_cons_of_pos hc]
      have hlen : (t.dropWhile lowerC).length ≤ t.length := (List.dropWhile_sublist _).length_le
      refine ⟨fun h => ?_, fun _ => ?_⟩
      · rw [hd] at h
        have := congrArg List.length h
        simp at this
        omega
      · rw [hd]
        have e1 : (Lib.trimS (t.dropWhile lowerC) nameSet).isEmpty = (t.dropWhile lowerC).all nameC := by
          have hs : (fun x => nameSet.contains x) = nameC := funext nameSet_spec
          have h3 := trimS_nil (t.dropWhile lowerC) nameSet
          rw [hs] at h3
          by_cases hq : (t.dropWhile lowerC).all nameC = true
          · rw [hq, h3.2 hq]; rfl
          · have hne : Lib.trimS (t.dropWhile lowerC) nameSet ≠ [] := fun e => hq (h3.1 e)
            rw [Bool.eq_false_iff.2 hq]
            cases hh : Lib.trimS (t.dropWhile lowerC) nameSet with
            | nil => exact absurd hh hne
            | cons _ _ => rfl
        have e2 : ∀ t : List UInt8, (t.dropWhile lowerC).all nameC = t.all nameC := by
          intro t
          induction t with
          | nil => rfl
          | cons x t ih =>
            by_cases hx : lowerC x = true
            · rw [List.dropWhile_cons_of_pos hx, ih, List.all_cons]; simp [nameC, hx]
            · rw [List.dropWhile_cons_of_neg hx]
        rw [e1, e2]
        have : t.length + 1 ≤ 16 := by simpa using h16
        simp [nameL, hc, this]
    · have hd : Lib.trimLeftS (c :: t) lowers = c :: t := by
        unfold Lib.trimLeftS
        have : (fun x => lowers.contains x) = lowerC := funext lowers_spec
        rw [this, List.dropWhile_cons_of_neg hc]
      exact ⟨fun _ => by simp [nameL, hc], fun h => absurd hd h⟩
theorem name_long {l : List UInt8} (h : 16 < l.length) : nameL l = false := by
  cases l with
  | nil => simp at h
  | cons c t => have : ¬ t.length + 1 ≤ 16 := by simp at h; omega
                simp [nameL, this]
end Go.Proofs.YtghihopmiagcpaaGreatDoor
/-
  Names: the program's test and the document's, both 'nameL'.
-/
namespace Go.Proofs.YtghihopmiagcpaaGreatDoor
open Go.RowKit
set_option linter.unusedVariables false
set_option linter.unusedSimpArgs false

def nameB (s : ByteArray) : Bool := nameL s.data.toList

theorem trimLeft_names (s : ByteArray) (w : World) :
    Calls Tryz.prog 65 #[.string s, .string ⟨lowers.toArray⟩] w fun e w' => e = .returned (.string ⟨(Lib.trimLeftS s.data.toList lowers).toArray⟩) ∧ Below w.heap.size w w' :=
  Any.strings_TrimLeft_laid Tryz.laysTrimLeft (by kernel_rfl) s ⟨lowers.toArray⟩ w (by decide) (ascii_of_all (by decide))
theorem toList_data (s : ByteArray) : s.toList = s.data.toList := Go.ByteArray.toList_eq s
theorem size_data (s : ByteArray) : s.size = s.data.toList.length := by
  rw [show s.size = s.data.size from rfl, Array.length_toList]

/-- the document's loop: a byte by its place -/
def nameGo : Nat → List UInt8 → Bool
  | _, [] => true
  | k, c :: t => (lowerC c || (decide (k ≠ 0) && otherC c)) && nameGo (k + 1) t
theorem nameGo_all : ∀ (l : List UInt8) (k : Nat), k ≠ 0 → nameGo k l = l.all nameC := by
  intro l
  induction l with
  | nil => intro k _; rfl
  | cons c t ih => intro k hk; rw [nameGo, ih (k + 1) (by omega), List.all_cons]; simp [hk, nameC]
theorem nameGo_name (l : List UInt8) (h : l ≠ []) : nameL l = (nameGo 0 l && decide (l.length ≤ 16)) := by
  cases l with
  | nil => exact absurd rfl h
  | cons c t => rw [nameGo, nameGo_all t 1 (by decide)]; simp [nameL]
theorem byte_at (s : ByteArray) (k : Nat) (h : k < s.size) : s.data.toList.drop k = s[k] :: s.data.toList.drop (k + 1) := by
  have h' : k < s.data.toList.length := by rw [← size_data]; exact h
  rw [List.drop_eq_getElem_cons h']
  rfl

end Go.Proofs.YtghihopmiagcpaaGreatDoor
