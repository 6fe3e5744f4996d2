/-
  The plain law of names: what the library's Trim and TrimLeft tell of a text is that it is a name.
-/
import Derived.Lib.SlTrimSet
import Derived.Test.YtminjjdnmpaaoaaGreatDoorRows
import Derived.Test.YtminjjdnmpaaoaaGreatDoorPp04
import Derived.Test.YtminjjdnmpaaoaaGreatDoorPp03
import Derived.WalkKit
import Derived.WalkSpells
import Derived.WalkLawsBesides
import Derived.IntWalk
import Derived.Lib.Hide
namespace Go.Proofs.YtminjjdnmpaaoaaGreatDoor
set_option linter.unusedVariables false
set_option linter.unusedSimpArgs false

def lowerC (b : UInt8) : Bool := decide (97 ≤ b.toNat) && decide (b.toNat ≤ 122)
def otherC (b : UInt8) : Bool := (decide (48 ≤ b.toNat) && decide (b.toNat ≤ 57)) || decide (b.toNat = 45)
def nameC (b : UInt8) : Bool := lowerC b || otherC b
/-- may a name be -/
def nameL : List UInt8 → Bool
  | [] => false
  | c :: t => lowerC c && t.all nameC && decide (t.length + 1 ≤ 16)

def lowers : List UInt8 := [97, 98, 99, 100, 101, 102, 103, 104, 105, 106, 107, 108, 109, 110, 111, 112, 113, 114, 115, 116, 117, 118, 119, 120, 121, 122]
def nameSet : List UInt8 := [97, 98, 99, 100, 101, 102, 103, 104, 105, 106, 107, 108, 109, 110, 111, 112, 113, 114, 115, 116, 117, 118, 119, 120, 121, 122, 48, 49, 50, 51, 52, 53, 54, 55, 56, 57, 45]

theorem all_bytes {p : UInt8 → Bool} (h : ∀ n : Fin 256, p (UInt8.ofNat n.val) = true) (b : UInt8) : p b = true := by
  have := h ⟨b.toNat, b.toNat_lt⟩
  simpa using this
theorem lowers_spec (b : UInt8) : lowers.contains b = lowerC b := by
  have h : ∀ b : UInt8, (lowers.contains b == lowerC b) = true := all_bytes (by decide +kernel)
  simpa using h b
theorem nameSet_spec (b : UInt8) : nameSet.contains b = nameC b := by
  have h : ∀ b : UInt8, (nameSet.contains b == nameC b) = true := all_bytes (by decide +kernel)
  simpa using h b

theorem dropWhile_nil {p : UInt8 → Bool} : ∀ {l : List UInt8}, l.dropWhile p = [] ↔ l.all p = true := by
  intro l
  induction l with
  | nil => simp
  | cons x l ih =>
    by_cases h : p x = true
    · rw [List.dropWhile_cons_of_pos h, List.all_cons, h, Bool.true_and]; exact ih
    · rw [List.dropWhile_cons_of_neg h]; simp [h]
theorem trimS_nil (l cs : List UInt8) : Lib.trimS l cs = [] ↔ l.all (cs.contains ·) = true := by
  unfold Lib.trimS Lib.trimLeftS Lib.trimRightS
  rw [dropWhile_nil]
  constructor
  · intro h
    by_cases hn : (l.reverse.dropWhile (cs.contains ·)) = []
    · have := dropWhile_nil.1 hn
      simpa using this
    · exfalso
      obtain ⟨x, t, hx⟩ := List.exists_cons_of_ne_nil hn
      have h1 : cs.contains x = true := by
        have := List.all_eq_true.1 h x (by rw [hx]; simp)
        exact this
      have h2 : ∀ (l : List UInt8), l.dropWhile (cs.contains ·) = x :: t → cs.contains x = false := by
        intro l
        induction l with
        | nil => intro h; simp at h
        | cons y l ih =>
          intro h
          by_cases hy : cs.contains y = true
          · rw [List.dropWhile_cons_of_pos hy] at h; exact ih h
          · rw [List.dropWhile_cons_of_neg hy] at h
            injection h with h3 h4
            subst h3
            simpa using hy
      rw [h2 _ hx] at h1
      cases h1
  · intro h
    have : l.reverse.dropWhile (cs.contains ·) = [] := dropWhile_nil.2 (by simpa using h)
    rw [this]; rfl

/-- the four tests of the program's Name -/
theorem name_tests (l : List UInt8) (h0 : l ≠ []) (h16 : l.length ≤ 16) :
    (Lib.trimLeftS l lowers = l → nameL l = false) ∧ (Lib.trimLeftS l lowers ≠ l → nameL l = (Lib.trimS (Lib.trimLeftS l lowers) nameSet).isEmpty) := by
  cases l with
  | nil => exact absurd rfl h0
  | cons c t =>
    by_cases hc : lowerC c = true
    · have hd : Lib.trimLeftS (c :: t) lowers = t.dropWhile lowerC := by
        unfold Lib.trimLeftS
        have : (fun x => lowers.contains x) = lowerC := funext lowers_spec
        rw [this, List.dropWhile_cons_of_pos hc]
      have hlen : (t.dropWhile lowerC).length ≤ t.length := (List.dropWhile_sublist _).length_le
      refine ⟨fun h => ?_, fun _ => ?_⟩
      · rw [hd] at h
        have := congrArg List.length h
        simp at this
        omega
      · rw [hd]
        have e1 : (Lib.trimS (t.dropWhile lowerC) nameSet).isEmpty = (t.dropWhile lowerC).all nameC := by
          have hs : (fun x => nameSet.contains x) = nameC := funext nameSet_spec
          have h3 := trimS_nil (t.dropWhile lowerC) nameSet
          rw [hs] at h3
          by_cases hq : (t.dropWhile lowerC).all nameC = true
          · rw [hq, h3.2 hq]; rfl
          · have hne : Lib.trimS (t.dropWhile lowerC) nameSet ≠ [] := fun e => hq (h3.1 e)
            rw [Bool.eq_false_iff.2 hq]
            cases hh : Lib.trimS (t.dropWhile lowerC) nameSet with
            | nil => exact absurd hh hne
            | cons _ _ => rfl
        have e2 : ∀ t : List UInt8, (t.dropWhile lowerC).all nameC = t.all nameC := by
          intro t
          induction t with
          | nil => rfl
          | cons x t ih =>
            by_cases hx : lowerC x = true
            · rw [List.dropWhile_cons_of_pos hx, ih, List.all_cons]; simp [nameC, hx]
            · rw [List.dropWhile_cons_of_neg hx]
        rw [e1, e2]
        have : t.length + 1 ≤ 16 := by simpa using h16
        simp [nameL, hc, this]
    · have hd : Lib.trimLeftS (c :: t) lowers = c :: t := by
        unfold Lib.trimLeftS
        have : (fun x => lowers.contains x) = lowerC := funext lowers_spec
        rw [this, List.dropWhile_cons_of_neg hc]
      exact ⟨fun _ => by simp [nameL, hc], fun h => absurd hd h⟩
theorem name_long {l : List UInt8} (h : 16 < l.length) : nameL l = false := by
  cases l with
  | nil => simp at h
  | cons c t => have : ¬ t.length + 1 ≤ 16 := by simp at h; omega
                simp [nameL, this]
end Go.Proofs.YtminjjdnmpaaoaaGreatDoor
/-
  Names: the program's test and the document's, both 'nameL'.
-/
namespace Go.Proofs.YtminjjdnmpaaoaaGreatDoor
open Go.RowKit
set_option linter.unusedVariables false
set_option linter.unusedSimpArgs false

def nameB (s : ByteArray) : Bool := nameL s.data.toList

theorem trimLeft_names (s : ByteArray) (w : World) :
    Calls Tryz.prog 67 #[.string s, .string ⟨lowers.toArray⟩] w fun e w' => e = .returned (.string ⟨(Lib.trimLeftS s.data.toList lowers).toArray⟩) ∧ Below w.heap.size w w' :=
  Any.strings_TrimLeft_laid Tryz.laysTrimLeft (by kernel_rfl) s ⟨lowers.toArray⟩ w (by decide) (ascii_of_all (by decide))
theorem trim_names (s : ByteArray) (hs : s.size ≤ 9223372036854775807) (w : World) :
    Calls Tryz.prog 68 #[.string s, .string ⟨nameSet.toArray⟩] w fun e w' => e = .returned (.string ⟨(Lib.trimS s.data.toList nameSet).toArray⟩) ∧ Below w.heap.size w w' :=
  Any.strings_Trim_laid Tryz.laysTrim (by kernel_rfl) s ⟨nameSet.toArray⟩ w hs (by decide) (ascii_of_all (by decide))

theorem toList_data (s : ByteArray) : s.toList = s.data.toList := Go.ByteArray.toList_eq s
theorem size_data (s : ByteArray) : s.size = s.data.toList.length := by
  rw [show s.size = s.data.size from rfl, Array.length_toList]

theorem scanName_any (s : ByteArray) (hs : s.size ≤ maxLen) (w : World) :
    Calls Tryz.prog 36 #[.string s] w fun e w' => e = .returned (.bool (nameB s)) ∧ Below w.heap.size w w' := by
  have hs63 : s.size ≤ 9223372036854775807 := by unfold maxLen at hs; omega
  have hsz := size_data s
  have hL := trimLeft_names s w
  by_cases h0 : s.data.toList = []
  · have h0' : s.toList.isEmpty = true := by rw [toList_data, h0]; rfl
    have h0'' : s.toList = [] := by rw [toList_data, h0]
    have Hn : Hid (nameB s = false) := by unfold Hid nameB; rw [h0]; rfl
    have HL := Lib.hid hL
    have Hd := Lib.hid h0
    clear hL h0 hsz
    go_enter Tryz.func36, Tryz.ntmps36
    go_wp2_with fail
    refine HL.out.mono ?_
    rintro e w1 ⟨rfl, hb⟩
    go_wp2
    go_ret
    exact ⟨ret_bool (by rw [Hn.out]), hb⟩
  · have h0' : s.toList.isEmpty = false := by rw [toList_data]; cases hh : s.data.toList with
      | nil => exact absurd hh h0
      | cons _ _ => rfl
    have h0'' : ¬ s.toList = [] := by rw [toList_data]; exact h0
    by_cases h16 : s.size ≤ 16
    · have ht := name_tests s.data.toList h0 (by omega)
      by_cases hT : Lib.trimLeftS s.data.toList lowers = s.data.toList
      · have Hn : Hid (nameB s = false) := ht.1 hT
        rw [hT] at hL
        have hself : (⟨s.data.toList.toArray⟩ : ByteArray) = s := by cases s; simp
        rw [hself] at hL
        have HL := Lib.hid hL
        clear hL h0 hsz ht hT hself
        go_enter Tryz.func36, Tryz.ntmps36
        go_wp2_with fail
        refine HL.out.mono ?_
        rintro e w1 ⟨rfl, hb⟩
        go_wp2
        go_ret
        exact ⟨ret_bool (by rw [Hn.out]), hb⟩
      · have hTr := ht.2 hT
        have hrl : (Lib.trimLeftS s.data.toList lowers).length ≤ s.data.toList.length := (List.dropWhile_sublist _).length_le
        have hne : (Lib.trimLeftS s.data.toList lowers == s.toList) = false := by rw [toList_data]; simpa using hT
        have HC := Lib.hid (fun W => trim_names ⟨(Lib.trimLeftS s.data.toList lowers).toArray⟩ (by rw [size_data]; simp; omega) W)
        have Hn : Hid (nameB s = (Lib.trimS (Lib.trimLeftS s.data.toList lowers) nameSet).isEmpty) := hTr
        generalize Lib.trimLeftS s.data.toList lowers = r at *
        have HL := Lib.hid hL
        have HT := Lib.hid hT
        clear hL h0 hsz ht hT hTr hrl
        have HC' : Hid (∀ W, Calls Tryz.prog 68 #[.string ⟨r.toArray⟩, .string ⟨nameSet.toArray⟩] W fun e w' => e = .returned (.string ⟨(Lib.trimS r nameSet).toArray⟩) ∧ Below W.heap.size W w') := fun W => HC.out W
        clear HC
        generalize Lib.trimS r nameSet = q at *
        go_enter Tryz.func36, Tryz.ntmps36
        go_wp2_with fail
        refine HL.out.mono ?_
        rintro e w1 ⟨rfl, hb⟩
        go_wp2_with fail
        refine (HC'.out w1).mono ?_
        rintro e w2 ⟨rfl, hb2⟩
        go_wp2
        go_ret
        exact ⟨ret_bool (by rw [Hn.out]), hb.trans (hb2.mono hb.size)⟩
    · have Hn : Hid (nameB s = false) := name_long (by omega)
      have h16' : 16 < s.size := by omega
      have HL := Lib.hid hL
      clear hL h0 hsz
      go_enter Tryz.func36, Tryz.ntmps36
      go_wp2_with fail
      refine HL.out.mono ?_
      rintro e w1 ⟨rfl, hb⟩
      go_wp2
      go_ret
      exact ⟨ret_bool (by rw [Hn.out]), hb⟩

/-- the document's loop: a byte by its place -/
def nameGo : Nat → List UInt8 → Bool
  | _, [] => true
  | k, c :: t => (lowerC c || (decide (k ≠ 0) && otherC c)) && nameGo (k + 1) t
theorem nameGo_all : ∀ (l : List UInt8) (k : Nat), k ≠ 0 → nameGo k l = l.all nameC := by
  intro l
  induction l with
  | nil => intro k _; rfl
  | cons c t ih => intro k hk; rw [nameGo, ih (k + 1) (by omega), List.all_cons]; simp [hk, nameC]
theorem nameGo_name (l : List UInt8) (h : l ≠ []) : nameL l = (nameGo 0 l && decide (l.length ≤ 16)) := by
  cases l with
  | nil => exact absurd rfl h
  | cons c t => rw [nameGo, nameGo_all t 1 (by decide)]; simp [nameL]
theorem byte_at (s : ByteArray) (k : Nat) (h : k < s.size) : s.data.toList.drop k = s[k] :: s.data.toList.drop (k + 1) := by
  have h' : k < s.data.toList.length := by rw [← size_data]; exact h
  rw [List.drop_eq_getElem_cons h']
  rfl

set_option maxHeartbeats 400000 in
theorem refName_any (s : ByteArray) (hs : s.size ≤ maxLen) (w : World) :
    Calls Tryz.prog 97 #[.string s] w fun e w' => e = .returned (.bool (nameB s)) ∧ w = w' := by
  unfold maxLen at hs
  have hnil : s.size = 0 → nameB s = false := fun h => by
    have : s.data.toList = [] := List.eq_nil_of_length_eq_zero (by rw [← size_data]; exact h)
    unfold nameB; rw [this]; rfl
  have hgo : s.size ≠ 0 → nameB s = (nameGo 0 s.data.toList && decide (s.size ≤ 16)) := fun h => by
    unfold nameB; rw [nameGo_name _ (by intro e; apply h; rw [size_data, e]; rfl), ← size_data]
  have Hnil := Lib.hid hnil; clear hnil
  have Hgo := Lib.hid hgo; clear hgo
  go_enter Tryz.func97, Tryz.ntmps97
  go_wp2
  go_loop [3] (fun i => ∃ k : Nat, k ≤ s.size ∧ i = .int .i64 k ∧ Hid (nameGo 0 s.data.toList = nameGo k (s.data.toList.drop k))) (fun i => s.size - (intOf i).toNat)
  case atStart => exact ⟨0, Nat.zero_le _, rfl, rfl⟩
  case round =>
    obtain ⟨k, hk, rfl, hrl⟩ := hrel
    by_cases hlt : k < s.size
    · have hb := byte_at s k hlt
      have hst : nameGo k (s.data.toList.drop k) = ((lowerC s[k] || (decide (k ≠ 0) && otherC s[k])) && nameGo (k + 1) (s.data.toList.drop (k + 1))) := by rw [hb, nameGo]
      have Hst := Lib.hid (hrl.out.trans hst)
      have hno : (lowerC s[k] || (decide (k ≠ 0) && otherC s[k])) = false → nameB s = false := fun h => by
        rw [Hgo.out (by omega), Hst.out, h]; rfl
      have Hno := Lib.hid hno
      clear hb hst hno hrl
      have hlow : Hid (lowerC s[k] = (decide (97 ≤ s[k].toNat) && decide (s[k].toNat ≤ 122))) := rfl
      have hoth : Hid (otherC s[k] = ((decide (48 ≤ s[k].toNat) && decide (s[k].toNat ≤ 57)) || decide (s[k].toNat = 45))) := rfl
      by_cases q1 : 97 ≤ (s[k].toNat : Int) ∧ (s[k].toNat : Int) ≤ 122
      · obtain ⟨q2, q3⟩ := q1
        have hok : Hid (nameGo 0 s.data.toList = nameGo (k + 1) (s.data.toList.drop (k + 1))) := by
          unfold Hid; rw [Hst.out, hlow.out]; simp; omega
        go_wp2_with fail
        go_round
        case rel => exact ⟨k + 1, by omega, by go_num, hok⟩
        case measure => simp [intOf]; omega
      · have hcl : ((s[k].toNat : Int) < 45 ∧ ((s[k].toNat : Int) == 45) = false) ∨ ((s[k].toNat : Int) = 45 ∧ ((s[k].toNat : Int) == 45) = true) ∨ ((45 : Int) < s[k].toNat ∧ (s[k].toNat : Int) < 48 ∧ ((s[k].toNat : Int) == 45) = false) ∨
            ((48 : Int) ≤ s[k].toNat ∧ (s[k].toNat : Int) ≤ 57) ∨ ((57 : Int) < s[k].toNat ∧ (s[k].toNat : Int) < 97 ∧ ((s[k].toNat : Int) == 45) = false) ∨ ((122 : Int) < s[k].toNat ∧ ((s[k].toNat : Int) == 45) = false) := by
          by_cases e45 : (s[k].toNat : Int) = 45
          · exact .inr (.inl ⟨e45, by simp [e45]⟩)
          · have e45' : ((s[k].toNat : Int) == 45) = false := by simpa using e45
            have h5 : (s[k].toNat : Int) < 45 ∨ ((45 : Int) < s[k].toNat ∧ (s[k].toNat : Int) < 48) ∨ ((48 : Int) ≤ s[k].toNat ∧ (s[k].toNat : Int) ≤ 57) ∨ ((57 : Int) < s[k].toNat ∧ (s[k].toNat : Int) < 97) ∨ (122 : Int) < s[k].toNat := by omega
            rcases h5 with h | h | h | h | h
            · exact .inl ⟨h, e45'⟩
            · exact .inr (.inr (.inl ⟨h.1, h.2, e45'⟩))
            · exact .inr (.inr (.inr (.inl h)))
            · exact .inr (.inr (.inr (.inr (.inl ⟨h.1, h.2, e45'⟩))))
            · exact .inr (.inr (.inr (.inr (.inr ⟨h, e45'⟩))))
        have hkk : (k = 0 ∧ ((k : Int) == 0) = true) ∨ (k ≠ 0 ∧ ((k : Int) == 0) = false) := by
          by_cases e0 : k = 0
          · exact .inl ⟨e0, by simp [e0]⟩
          · exact .inr ⟨e0, by simp [e0]⟩
        have hbad : Hid (((s[k].toNat : Int) < 45 ∨ ((45 : Int) < s[k].toNat ∧ (s[k].toNat : Int) < 48) ∨ ((57 : Int) < s[k].toNat) ∨ k = 0) → nameB s = false) := fun h => Hno.out (by
          rw [hlow.out, hoth.out]
          simp
          omega)
        have hgood : Hid (k ≠ 0 → ((s[k].toNat : Int) = 45 ∨ ((48 : Int) ≤ s[k].toNat ∧ (s[k].toNat : Int) ≤ 57)) → nameGo 0 s.data.toList = nameGo (k + 1) (s.data.toList.drop (k + 1))) := fun h h' => by
          rw [Hst.out, hlow.out, hoth.out]
          simp
          omega
        have Q1 := Lib.hid q1
        clear q1
        rcases hcl with ⟨c1, c2⟩ | ⟨c1, c2⟩ | ⟨c1, c2, c3⟩ | ⟨c1, c2⟩ | ⟨c1, c2, c3⟩ | ⟨c1, c2⟩
        · rcases hkk with ⟨hk0, hk1⟩ | ⟨hk0, hk1⟩
          · have HB := Lib.hid (hbad.out (by omega))
            clear hbad hgood Hno hk0
            go_wp2_with fail
            all_goals first
              | (go_ret
                 exact ⟨ret_bool HB.out.symm, rfl⟩)
              | (exfalso
                 rename_i hx
                 rcases hx with hx | hx <;> simp at hx <;> omega)
              | (exfalso
                 rename_i hx
                 simp at hx
                 omega)
          · have HB := Lib.hid (hbad.out (by omega))
            clear hbad hgood Hno hk0
            go_wp2_with fail
            all_goals first
              | (go_ret
                 exact ⟨ret_bool HB.out.symm, rfl⟩)
              | (exfalso
                 rename_i hx
                 rcases hx with hx | hx <;> simp at hx <;> omega)
              | (exfalso
                 rename_i hx
                 simp at hx
                 omega)
        · rcases hkk with ⟨hk0, hk1⟩ | ⟨hk0, hk1⟩
          · have HB := Lib.hid (hbad.out (by omega))
            clear hbad hgood Hno hk0
            go_wp2_with fail
            all_goals first
              | (go_ret
                 exact ⟨ret_bool HB.out.symm, rfl⟩)
              | (exfalso
                 rename_i hx
                 rcases hx with hx | hx <;> simp at hx <;> omega)
              | (exfalso
                 rename_i hx
                 simp at hx
                 omega)
          · have HG := Lib.hid (hgood.out hk0 (by omega))
            clear hbad hgood Hno hk0
            go_wp2_with fail
            all_goals first
              | (go_round
                 case rel => exact ⟨k + 1, by omega, by go_num, HG⟩
                 case measure => simp [intOf]; omega)
              | (exfalso
                 rename_i hx
                 rcases hx with hx | hx <;> simp at hx <;> omega)
              | (exfalso
                 rename_i hx
                 simp at hx
                 omega)
        · rcases hkk with ⟨hk0, hk1⟩ | ⟨hk0, hk1⟩
          · have HB := Lib.hid (hbad.out (by omega))
            clear hbad hgood Hno hk0
            go_wp2_with fail
            all_goals first
              | (go_ret
                 exact ⟨ret_bool HB.out.symm, rfl⟩)
              | (exfalso
                 rename_i hx
                 rcases hx with hx | hx <;> simp at hx <;> omega)
              | (exfalso
                 rename_i hx
                 simp at hx
                 omega)
          · have HB := Lib.hid (hbad.out (by omega))
            clear hbad hgood Hno hk0
            go_wp2_with fail
            all_goals first
              | (go_ret
                 exact ⟨ret_bool HB.out.symm, rfl⟩)
              | (exfalso
                 rename_i hx
                 rcases hx with hx | hx <;> simp at hx <;> omega)
              | (exfalso
                 rename_i hx
                 simp at hx
                 omega)
        · rcases hkk with ⟨hk0, hk1⟩ | ⟨hk0, hk1⟩
          · have HB := Lib.hid (hbad.out (by omega))
            clear hbad hgood Hno hk0
            go_wp2_with fail
            all_goals first
              | (go_ret
                 exact ⟨ret_bool HB.out.symm, rfl⟩)
              | (exfalso
                 rename_i hx
                 rcases hx with hx | hx <;> simp at hx <;> omega)
              | (exfalso
                 rename_i hx
                 simp at hx
                 omega)
          · have HG := Lib.hid (hgood.out hk0 (by omega))
            clear hbad hgood Hno hk0
            go_wp2_with fail
            all_goals first
              | (go_round
                 case rel => exact ⟨k + 1, by omega, by go_num, HG⟩
                 case measure => simp [intOf]; omega)
              | (exfalso
                 rename_i hx
                 rcases hx with hx | hx <;> simp at hx <;> omega)
              | (exfalso
                 rename_i hx
                 simp at hx
                 omega)
        · rcases hkk with ⟨hk0, hk1⟩ | ⟨hk0, hk1⟩
          · have HB := Lib.hid (hbad.out (by omega))
            clear hbad hgood Hno hk0
            go_wp2_with fail
            all_goals first
              | (go_ret
                 exact ⟨ret_bool HB.out.symm, rfl⟩)
              | (exfalso
                 rename_i hx
                 rcases hx with hx | hx <;> simp at hx <;> omega)
              | (exfalso
                 rename_i hx
                 simp at hx
                 omega)
          · have HB := Lib.hid (hbad.out (by omega))
            clear hbad hgood Hno hk0
            go_wp2_with fail
            all_goals first
              | (go_ret
                 exact ⟨ret_bool HB.out.symm, rfl⟩)
              | (exfalso
                 rename_i hx
                 rcases hx with hx | hx <;> simp at hx <;> omega)
              | (exfalso
                 rename_i hx
                 simp at hx
                 omega)
        · rcases hkk with ⟨hk0, hk1⟩ | ⟨hk0, hk1⟩
          · have HB := Lib.hid (hbad.out (by omega))
            clear hbad hgood Hno hk0
            go_wp2_with fail
            all_goals first
              | (go_ret
                 exact ⟨ret_bool HB.out.symm, rfl⟩)
              | (exfalso
                 rename_i hx
                 rcases hx with hx | hx <;> simp at hx <;> omega)
              | (exfalso
                 rename_i hx
                 simp at hx
                 omega)
          · have HB := Lib.hid (hbad.out (by omega))
            clear hbad hgood Hno hk0
            go_wp2_with fail
            all_goals first
              | (go_ret
                 exact ⟨ret_bool HB.out.symm, rfl⟩)
              | (exfalso
                 rename_i hx
                 rcases hx with hx | hx <;> simp at hx <;> omega)
              | (exfalso
                 rename_i hx
                 simp at hx
                 omega)
    · have hkn : k = s.size := by omega
      by_cases h0 : s.size = 0
      · have e1 : s.toList = [] := by rw [toList_data]; exact List.eq_nil_of_length_eq_zero (by rw [← size_data]; exact h0)
        have e2 : s.toList.isEmpty = true := by rw [e1]; rfl
        have HN := Lib.hid (Hnil.out h0)
        clear h0 hkn
        go_wp2_with fail
        go_ret
        exact ⟨ret_bool HN.out.symm, rfl⟩
      · have e1 : ¬ s.toList = [] := by
          rw [toList_data]; intro e; apply h0; rw [size_data, e]; rfl
        have e2 : s.toList.isEmpty = false := by
          cases hh : s.toList with
          | nil => exact absurd hh e1
          | cons _ _ => rfl
        have HN : Hid (nameB s = decide (s.size ≤ 16)) := by
          unfold Hid
          rw [Hgo.out h0, hrl.out, List.drop_eq_nil_of_le (by rw [← size_data]; omega), nameGo, Bool.true_and]
        clear h0 hkn
        go_wp2_with fail
        go_ret
        exact ⟨ret_bool (by rw [HN.out]; exact decide_eq_decide.2 (by omega)), rfl⟩
end Go.Proofs.YtminjjdnmpaaoaaGreatDoor
