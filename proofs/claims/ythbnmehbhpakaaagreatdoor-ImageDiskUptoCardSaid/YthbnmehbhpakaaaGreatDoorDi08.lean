/-
  The plain law of names: what the library's Trim and TrimLeft tell of a text is that it is a name.
  May of a list of spans: the program's and the document's, walked.
-/
import Derived.Lib.SlTrimSet
import Derived.Test.YthbnmehbhpakaaaGreatDoorRows
import Derived.Test.YthbnmehbhpakaaaGreatDoorDi01
import Derived.Test.YthbnmehbhpakaaaGreatDoorDi05
import Derived.Test.YthbnmehbhpakaaaGreatDoorDi04
import Derived.WalkKit
import Derived.WalkSpells
import Derived.WalkLawsBesides
import Derived.IntWalk
import Derived.Lib.Hide
import Derived.Lib.Join
namespace Go.Proofs.YthbnmehbhpakaaaGreatDoor
set_option linter.unusedVariables false
set_option linter.unusedSimpArgs false

def lowerC (b : UInt8) : Bool := decide (97 ≤ b.toNat) && decide (b.toNat ≤ 122)
def otherC (b : UInt8) : Bool := (decide (48 ≤ b.toNat) && decide (b.toNat ≤ 57)) || decide (b.toNat = 45)
def nameC (b : UInt8) : Bool := lowerC b || otherC b
/-- may a name be -/
def nameL : List UInt8 → Bool
  | [] => false
  | c :: t => lowerC c && t.all nameC && decide (t.length + 1 ≤ 16)

def lowers : List UInt8 := [97, 98, 99, 100, 101, 102, 103, 104, 105, 106, 107, 108, 109, 110, 111, 112, 113, 114, 115, 116, 117, 118, 119, 120, 121, 122]
def nameSet : List UInt8 := [97, 98, 99, 100, 101, 102, 103, 104, 105, 106, 107, 108, 109, 110, 111, 112, 113, 114, 115, 116, 117, 118, 119, 120, 121, 122, 48, 49, 50, 51, 52, 53, 54, 55, 56, 57, 45]

theorem all_bytes {p : UInt8 → Bool} (h : ∀ n : Fin 256, p (UInt8.ofNat n.val) = true) (b : UInt8) : p b = true := by
  have := h ⟨b.toNat, b.toNat_lt⟩
  simpa using this
theorem lowers_spec (b : UInt8) : lowers.contains b = lowerC b := by
  have h : ∀ b : UInt8, (lowers.contains b == lowerC b) = true := all_bytes (by decide +kernel)
  simpa using h b
theorem nameSet_spec (b : UInt8) : nameSet.contains b = nameC b := by
  have h : ∀ b : UInt8, (nameSet.contains b == nameC b) = true := all_bytes (by decide +kernel)
  simpa using h b

theorem dropWhile_nil {p : UInt8 → Bool} : ∀ {l : List UInt8}, l.dropWhile p = [] ↔ l.all p = true := by
  intro l
  induction l with
  | nil => simp
  | cons x l ih =>
    by_cases h : p x = true
    · rw [List.dropWhile_cons_of_pos h, List.all_cons, h, Bool.true_and]; exact ih
    · rw [List.dropWhile_cons_of_neg h]; simp [h]
theorem trimS_nil (l cs : List UInt8) : Lib.trimS l cs = [] ↔ l.all (cs.contains ·) = true := by
  unfold Lib.trimS Lib.trimLeftS Lib.trimRightS
  rw [dropWhile_nil]
  constructor
  · intro h
    by_cases hn : (l.reverse.dropWhile (cs.contains ·)) = []
    · have := dropWhile_nil.1 hn
      simpa using this
    · exfalso
      obtain ⟨x, t, hx⟩ := List.exists_cons_of_ne_nil hn
      have h1 : cs.contains x = true := by
        have := List.all_eq_true.1 h x (by rw [hx]; simp)
        exact this
      have h2 : ∀ (l : List UInt8), l.dropWhile (cs.contains ·) = x :: t → cs.contains x = false := by
        intro l
        induction l with
        | nil => intro h; simp at h
        | cons y l ih =>
          intro h
          by_cases hy : cs.contains y = true
          · rw [List.dropWhile_cons_of_pos hy] at h; exact ih h
          · rw [List.dropWhile_cons_of_neg hy] at h
            injection h with h3 h4
            subst h3
            simpa using hy
      rw [h2 _ hx] at h1
      cases h1
  · intro h
    have : l.reverse.dropWhile (cs.contains ·) = [] := dropWhile_nil.2 (by simpa using h)
    rw [this]; rfl

/-- the four tests of the program's Name -/
theorem name_tests (l : List UInt8) (h0 : l ≠ []) (h16 : l.length ≤ 16) :
    (Lib.trimLeftS l lowers = l → nameL l = false) ∧ (Lib.trimLeftS l lowers ≠ l → nameL l = (Lib.trimS (Lib.trimLeftS l lowers) nameSet).isEmpty) := by
  cases l with
  | nil => exact absurd rfl h0
  | cons c t =>
    by_cases hc : lowerC c = true
    · have hd : Lib.trimLeftS (c :: t) lowers = t.dropWhile lowerC := by
        unfold Lib.trimLeftS
        have : (fun x => lowers.contains x) = lowerC := funext lowers_spec
        rw [this, List.dropWhile_cons_of_pos hc]
      have hlen : (t.dropWhile lowerC).length ≤ t.length := (List.dropWhile_sublist _).length_le
      refine ⟨fun h => ?_, fun _ => ?_⟩
      · rw [hd] at h
        have := congrArg List.length h
        simp at this
        omega
      · rw [hd]
        have e1 : (Lib.trimS (t.dropWhile lowerC) nameSet).isEmpty = (t.dropWhile lowerC).all nameC := by
          have hs : (fun x => nameSet.contains x) = nameC := funext nameSet_spec
          have h3 := trimS_nil (t.dropWhile lowerC) nameSet
          rw [hs] at h3
          by_cases hq : (t.dropWhile lowerC).all nameC = true
          · rw [hq, h3.2 hq]; rfl
          · have hne : Lib.trimS (t.dropWhile lowerC) nameSet ≠ [] := fun e => hq (h3.1 e)
            rw [Bool.eq_false_iff.2 hq]
            cases hh : Lib.trimS (t.dropWhile lowerC) nameSet with
            | nil => exact absurd hh hne
            | cons _ _ => rfl
        have e2 : ∀ t : List UInt8, (t.dropWhile lowerC).all nameC = t.all nameC := by
          intro t
          induction t with
          | nil => rfl
          | cons x t ih =>
            by_cases hx : lowerC x = true
            · rw [List.dropWhile_cons_of_pos hx, ih, List.all_cons]; simp [nameC, hx]
            · rw [List.dropWhile_cons_of_neg hx]
        rw [e1, e2]
        have : t.length + 1 ≤ 16 := by simpa using h16
        simp [nameL, hc, this]
    · have hd : Lib.trimLeftS (c :: t) lowers = c :: t := by
        unfold Lib.trimLeftS
        have : (fun x => lowers.contains x) = lowerC := funext lowers_spec
        rw [this, List.dropWhile_cons_of_neg hc]
      exact ⟨fun _ => by simp [nameL, hc], fun h => absurd hd h⟩
theorem name_long {l : List UInt8} (h : 16 < l.length) : nameL l = false := by
  cases l with
  | nil => simp at h
  | cons c t => have : ¬ t.length + 1 ≤ 16 := by simp at h; omega
                simp [nameL, this]
end Go.Proofs.YthbnmehbhpakaaaGreatDoor
/-
  Names: the program's test and the document's, both 'nameL'.
-/
namespace Go.Proofs.YthbnmehbhpakaaaGreatDoor
open Go.RowKit
set_option linter.unusedVariables false
set_option linter.unusedSimpArgs false

def nameB (s : ByteArray) : Bool := nameL s.data.toList

theorem trimLeft_names (s : ByteArray) (w : World) :
    Calls Tryz.prog 122 #[.string s, .string ⟨lowers.toArray⟩] w fun e w' => e = .returned (.string ⟨(Lib.trimLeftS s.data.toList lowers).toArray⟩) ∧ Below w.heap.size w w' :=
  Any.strings_TrimLeft_laid Tryz.laysTrimLeft (by kernel_rfl) s ⟨lowers.toArray⟩ w (by decide) (ascii_of_all (by decide))
theorem trim_names (s : ByteArray) (hs : s.size ≤ 9223372036854775807) (w : World) :
    Calls Tryz.prog 123 #[.string s, .string ⟨nameSet.toArray⟩] w fun e w' => e = .returned (.string ⟨(Lib.trimS s.data.toList nameSet).toArray⟩) ∧ Below w.heap.size w w' :=
  Any.strings_Trim_laid Tryz.laysTrim (by kernel_rfl) s ⟨nameSet.toArray⟩ w hs (by decide) (ascii_of_all (by decide))

theorem toList_data (s : ByteArray) : s.toList = s.data.toList := Go.ByteArray.toList_eq s
theorem size_data (s : ByteArray) : s.size = s.data.toList.length := by
  rw [show s.size = s.data.size from rfl, Array.length_toList]

theorem scanName_any (s : ByteArray) (hs : s.size ≤ maxLen) (w : World) :
    Calls Tryz.prog 61 #[.string s] w fun e w' => e = .returned (.bool (nameB s)) ∧ Below w.heap.size w w' := by
  have hs63 : s.size ≤ 9223372036854775807 := by unfold maxLen at hs; omega
  have hsz := size_data s
  have hL := trimLeft_names s w
  by_cases h0 : s.data.toList = []
  · have h0' : s.toList.isEmpty = true := by rw [toList_data, h0]; rfl
    have h0'' : s.toList = [] := by rw [toList_data, h0]
    have Hn : Hid (nameB s = false) := by unfold Hid nameB; rw [h0]; rfl
    have HL := Lib.hid hL
    have Hd := Lib.hid h0
    clear hL h0 hsz
    go_enter Tryz.func61, Tryz.ntmps61
    go_wp2_with fail
    refine HL.out.mono ?_
    rintro e w1 ⟨rfl, hb⟩
    go_wp2
    go_ret
    exact ⟨ret_bool (by rw [Hn.out]), hb⟩
  · have h0' : s.toList.isEmpty = false := by rw [toList_data]; cases hh : s.data.toList with
      | nil => exact absurd hh h0
      | cons _ _ => rfl
    have h0'' : ¬ s.toList = [] := by rw [toList_data]; exact h0
    by_cases h16 : s.size ≤ 16
    · have ht := name_tests s.data.toList h0 (by omega)
      by_cases hT : Lib.trimLeftS s.data.toList lowers = s.data.toList
      · have Hn : Hid (nameB s = false) := ht.1 hT
        rw [hT] at hL
        have hself : (⟨s.data.toList.toArray⟩ : ByteArray) = s := by cases s; simp
        rw [hself] at hL
        have HL := Lib.hid hL
        clear hL h0 hsz ht hT hself
        go_enter Tryz.func61, Tryz.ntmps61
        go_wp2_with fail
        refine HL.out.mono ?_
        rintro e w1 ⟨rfl, hb⟩
        go_wp2
        go_ret
        exact ⟨ret_bool (by rw [Hn.out]), hb⟩
      · have hTr := ht.2 hT
        have hrl : (Lib.trimLeftS s.data.toList lowers).length ≤ s.data.toList.length := (List.dropWhile_sublist _).length_le
        have hne : (Lib.trimLeftS s.data.toList lowers == s.toList) = false := by rw [toList_data]; simpa using hT
        have HC := Lib.hid (fun W => trim_names ⟨(Lib.trimLeftS s.data.toList lowers).toArray⟩ (by rw [size_data]; simp; omega) W)
        have Hn : Hid (nameB s = (Lib.trimS (Lib.trimLeftS s.data.toList lowers) nameSet).isEmpty) := hTr
        generalize Lib.trimLeftS s.data.toList lowers = r at *
        have HL := Lib.hid hL
        have HT := Lib.hid hT
        clear hL h0 hsz ht hT hTr hrl
        have HC' : Hid (∀ W, Calls Tryz.prog 123 #[.string ⟨r.toArray⟩, .string ⟨nameSet.toArray⟩] W fun e w' => e = .returned (.string ⟨(Lib.trimS r nameSet).toArray⟩) ∧ Below W.heap.size W w') := fun W => HC.out W
        clear HC
        generalize Lib.trimS r nameSet = q at *
        go_enter Tryz.func61, Tryz.ntmps61
        go_wp2_with fail
        refine HL.out.mono ?_
        rintro e w1 ⟨rfl, hb⟩
        go_wp2_with fail
        refine (HC'.out w1).mono ?_
        rintro e w2 ⟨rfl, hb2⟩
        go_wp2
        go_ret
        exact ⟨ret_bool (by rw [Hn.out]), hb.trans (hb2.mono hb.size)⟩
    · have Hn : Hid (nameB s = false) := name_long (by omega)
      have h16' : 16 < s.size := by omega
      have HL := Lib.hid hL
      clear hL h0 hsz
      go_enter Tryz.func61, Tryz.ntmps61
      go_wp2_with fail
      refine HL.out.mono ?_
      rintro e w1 ⟨rfl, hb⟩
      go_wp2
      go_ret
      exact ⟨ret_bool (by rw [Hn.out]), hb⟩

theorem byte_at (s : ByteArray) (k : Nat) (h : k < s.size) : s.data.toList.drop k = s[k] :: s.data.toList.drop (k + 1) := by
  have h' : k < s.data.toList.length := by rw [← size_data]; exact h
  rw [List.drop_eq_getElem_cons h']
  rfl

end Go.Proofs.YthbnmehbhpakaaaGreatDoor
set_option autoImplicit false
set_option relaxedAutoImplicit false
set_option linter.unusedVariables false
set_option linter.unusedSimpArgs false
namespace Go.Proofs.YthbnmehbhpakaaaGreatDoor
open Go.Rows Go.RowKit Go.Shelf Go.Sort

theorem spanGo_at {le : Int} {l : List Spn} {k : Nat} (h : k < l.length) : spanGo le (l.drop k) =
    ((verB l[k].lo.major l[k].lo.minor l[k].lo.patch && verB l[k].hi.major l[k].hi.minor l[k].hi.patch && decide (le ≤ rankR l[k].lo.major l[k].lo.minor l[k].lo.patch) &&
      decide (rankR l[k].lo.major l[k].lo.minor l[k].lo.patch ≤ rankR l[k].hi.major l[k].hi.minor l[k].hi.patch)) && spanGo (rankR l[k].hi.major l[k].hi.minor l[k].hi.patch + 2) (l.drop (k + 1))) := by
  rw [List.drop_eq_getElem_cons h]; rfl
theorem spansB_big {l : List Spn} (h : ¬ l.length ≤ 64) : spansB l = false := by simp [spansB, h]
theorem spansB_small {l : List Spn} (h : l.length ≤ 64) : spansB l = spanGo 0 l := by simp [spansB, h]

set_option maxHeartbeats 1000000 in
theorem spanMay_any (A : Option Addr) (n c : Nat) (l : List Spn) (w : World) (S : Nat → Prop) (hl : SlV rSpn w S l (.slice A n c)) :
    Calls Tryz.prog 188 #[.slice A n c] w fun e w' => e = .returned (.bool (spansB l)) ∧ Below w.heap.size w w' := by
  have hnx := hl.n_eq
  by_cases h64 : n ≤ 64
  · have Hs : Hid (spansB l = spanGo 0 l) := spansB_small (by omega)
    have hl' := hl.more (S' := fun b => b < w.heap.size) fun b _ hlt => hlt
    have Hnx := Lib.hid hnx; clear hnx
    clear hl
    generalize spansB l = r at *
    go_enter Tryz.func188, Tryz.ntmps188
    go_wp2_with fail
    go_loopw [3, 15] (fun t i wr => ∃ (k : Nat) (le : Int), k ≤ n ∧ i = .int .i64 k ∧ t = .int .i64 le ∧ (0 ≤ le ∧ le ≤ 1000000001) ∧ Hid (spanGo 0 l = spanGo le (l.drop k)) ∧ Below w.heap.size w wr) (fun _ i _ => n - (intOf i).toNat)
    case atStart => exact ⟨0, 0, Nat.zero_le _, rfl, rfl, by omega, by simp [Hid], Below.refl _ _⟩
    case round =>
      obtain ⟨k, le, hk, rfl, rfl, ⟨hle0, hle1⟩, hgo, hbel⟩ := hrel
      by_cases hlt : k < n
      · have hkx : k < l.length := by have := Hnx.out; omega
        have hlw := hl'.below hbel (fun b hb => hb)
        obtain ⟨b, o, cs, rfl, hSb, hbl, hsp, hcell⟩ := hlw.elem (List.getElem?_eq_getElem hkx)
        obtain ⟨rfl, _, _, _, _, _, _⟩ := hsp
        have c0 := hcell 0 _ rfl
        have c1 := hcell 1 _ rfl
        have c2 := hcell 2 _ rfl
        have c3 := hcell 3 _ rfl
        have c4 := hcell 4 _ rfl
        have c5 := hcell 5 _ rfl
        simp only [rSpn, Nat.add_zero, Nat.mul_one] at c0 c1 c2 c3 c4 c5
        clear hcell
        have Hgo := Lib.hid (spanGo_at (le := le) hkx)
        clear hlw
        have hkn : (k : Int) < (n : Int) := by omega
        generalize l[k] = s at *
        obtain ⟨⟨x1, x2, x3⟩, ⟨x4, x5, x6⟩⟩ := s
        simp only at c0 c1 c2 c3 c4 c5
        have H1 := Lib.hid (fun W => versRank_any x1 x2 x3 W)
        have H2 := Lib.hid (fun W => versRank_any x4 x5 x6 W)
        obtain ⟨p1, p2⟩ := rankR_bounds x1 x2 x3
        obtain ⟨q1, q2⟩ := rankR_bounds x4 x5 x6
        generalize hr1 : rankR x1 x2 x3 = r1 at *
        generalize hr2 : rankR x4 x5 x6 = r2 at *
        generalize hv1 : verB x1 x2 x3 = v1 at *
        generalize hv2 : verB x4 x5 x6 = v2 at *
        have Hgo' : Hid (spanGo le (l.drop k) = ((v1 && v2 && decide (le ≤ r1) && decide (r1 ≤ r2)) && spanGo (r2 + 2) (l.drop (k + 1)))) := by
          have := Hgo.out; try simp only [hr1, hr2, hv1, hv2] at this
          exact this
        clear Hgo hr1 hr2 hv1 hv2
        go_wp2_with fail
        refine (H1.out _).mono ?_
        rintro e w1 ⟨rfl, hb1⟩
        have e3 := hb1.cell (p := ⟨wr.heap.size, 3, none⟩) (by simp)
        have e4 := hb1.cell (p := ⟨wr.heap.size, 4, none⟩) (by simp)
        have e5 := hb1.cell (p := ⟨wr.heap.size, 5, none⟩) (by simp)
        simp [go_sem] at e3 e4 e5
        have B1 := bot hbel (bnew hb1)
        clear hb1 hbel
        go_wp2_with fail
        refine (H2.out _).mono ?_
        rintro e w2 ⟨rfl, hb2⟩
        have B2 := bot B1 hb2
        clear hb2 B1 e3 e4 e5 c0 c1 c2 c3 c4 c5
        have Hend : Hid ((v1 && v2 && decide (le ≤ r1) && decide (r1 ≤ r2)) = false → r = false) := fun h => by rw [Hs.out, hgo.out, Hgo'.out, h]; rfl
        have Hon : Hid ((v1 && v2 && decide (le ≤ r1) && decide (r1 ≤ r2)) = true → spanGo 0 l = spanGo (r2 + 2) (l.drop (k + 1))) := fun h => by rw [hgo.out, Hgo'.out, h, Bool.true_and]
        clear hgo Hgo'
        cases v1
        · go_wp2_with fail
          go_ret
          exact ⟨ret_bool (Hend.out rfl).symm, B2⟩
        · cases v2
          · go_wp2_with fail
            go_ret
            exact ⟨ret_bool (Hend.out rfl).symm, B2⟩
          · by_cases g1 : r1 < le
            · have He := Lib.hid (Hend.out (by simp; omega))
              go_wp2_with fail
              go_ret
              exact ⟨ret_bool He.out.symm, B2⟩
            · by_cases g2 : r2 < r1
              · have He := Lib.hid (Hend.out (by simp; omega))
                go_wp2_with fail
                go_ret
                exact ⟨ret_bool He.out.symm, B2⟩
              · have He := Lib.hid (Hon.out (by simp; omega))
                go_wp2_with fail
                go_roundw
                case rel => exact ⟨k + 1, r2 + 2, by omega, by go_num, rfl, by omega, He, B2⟩
                case measure => simp [intOf]; omega
      · have He : Hid (r = true) := by
          unfold Hid
          rw [Hs.out, hgo.out, List.drop_eq_nil_of_le (by have := Hnx.out; omega)]; rfl
        go_wp2_with fail
        go_ret
        exact ⟨ret_bool He.out.symm, hbel⟩
  · have Hs : Hid (spansB l = false) := spansB_big (by omega)
    clear hnx hl
    generalize spansB l = r at *
    have h64' : (64 : Int) < (n : Int) := by omega
    go_enter Tryz.func188, Tryz.ntmps188
    go_wp2_with fail
    go_ret
    exact ⟨ret_bool Hs.out.symm, Below.refl _ _⟩

end Go.Proofs.YthbnmehbhpakaaaGreatDoor
/-
  Sets of versions in plain words: their texts.
-/
set_option autoImplicit false
set_option relaxedAutoImplicit false
set_option linter.unusedVariables false
namespace Go.Proofs.YthbnmehbhpakaaaGreatDoor
open Go

def sepB : ByteArray := ⟨#[32, 124, 124, 32]⟩
def starB : ByteArray := ⟨#[42]⟩
def leB : ByteArray := ⟨#[60, 61]⟩
def geB : ByteArray := ⟨#[62, 61]⟩
def andB : ByteArray := ⟨#[32, 60, 61]⟩
def noneB : ByteArray := ⟨#[60, 48, 46, 48, 46, 48]⟩
def spaceB : ByteArray := ⟨#[32]⟩
def Ver.text (v : Ver) : ByteArray := verText v.major v.minor v.patch
def spanText (s : Spn) : ByteArray :=
  if s.lo.rank = s.hi.rank then s.lo.text
  else if s.lo.rank = 0 then (if s.hi.rank = 999999999 then starB else leB ++ s.hi.text)
  else if s.hi.rank = 999999999 then geB ++ s.lo.text
  else geB ++ s.lo.text ++ andB ++ s.hi.text
def joinB (l : List ByteArray) : ByteArray := ⟨(Lib.join (l.map (·.data.toList)) sepB.data.toList).toArray⟩
def spansText (l : List Spn) : ByteArray := if spansB l then (if l = [] then noneB else joinB (l.map spanText)) else ⟨#[]⟩

theorem verText_le (a b c : Int) : (verText a b c).size ≤ 11 := by
  have key : ∀ n : Int, 0 ≤ n → n ≤ 999 → (itoaB n).size ≤ 3 := by
    intro n h0 h1
    have : n.toNat < 1000 := by omega
    have e : itoaB n = ⟨(Lib.decDigits n.toNat).toArray⟩ := by unfold itoaB Lib.itoa; rw [if_neg (by omega)]
    rw [e]
    show (Lib.decDigits n.toNat).toArray.size ≤ 3
    simp only [List.size_toArray]
    have hd : ∀ k : Fin 1000, (Lib.decDigits k.val).length ≤ 3 := by decide +kernel
    exact hd ⟨n.toNat, this⟩
  unfold verText
  cases h : verB a b c
  · simp only [Bool.false_eq_true, if_false]
    show 0 ≤ 11; omega
  · have h' := verB_iff.1 h
    have k1 := key a (by omega) (by omega)
    have k2 := key b (by omega) (by omega)
    have k3 := key c (by omega) (by omega)
    have z : dotB.size = 1 := rfl
    simp only [if_true, ByteArray.size_append]
    omega
theorem spanText_le (s : Spn) : (spanText s).size ≤ 27 := by
  have h1 : s.lo.text.size ≤ 11 := verText_le _ _ _
  have h2 : s.hi.text.size ≤ 11 := verText_le _ _ _
  have z1 : leB.size = 2 := rfl
  have z2 : geB.size = 2 := rfl
  have z3 : andB.size = 3 := rfl
  have z4 : starB.size = 1 := rfl
  unfold spanText
  repeat' split
  all_goals (try simp only [ByteArray.size_append])
  all_goals omega
theorem joinB_le (l : List ByteArray) (h : ∀ s ∈ l, s.size ≤ 27) : (joinB l).size ≤ 31 * l.length := by
  have key : ∀ l : List ByteArray, (∀ s ∈ l, s.size ≤ 27) → (Lib.joinTail sepB.data.toList (l.map (·.data.toList))).length ≤ 31 * l.length := by
    intro l
    induction l with
    | nil => intro _; exact Nat.le_refl _
    | cons s t ih =>
      intro h
      have h1 : s.data.toList.length ≤ 27 := by have := h s (List.mem_cons_self ..); rw [Array.length_toList]; exact this
      have h2 := ih (fun x hx => h x (by simp [hx]))
      have z : sepB.data.toList.length = 4 := rfl
      simp only [Lib.joinTail, List.map_cons, List.flatten_cons, List.length_append, List.length_cons] at *
      omega
  cases l with
  | nil => exact Nat.le_refl _
  | cons s t =>
    unfold joinB
    rw [List.map_cons, Lib.join_cons]
    have h1 : s.data.toList.length ≤ 27 := by have := h s (List.mem_cons_self ..); rw [Array.length_toList]; exact this
    have h2 := key t (fun x hx => h x (by simp [hx]))
    simp only [ByteArray.size, List.size_toArray, List.length_append, List.length_cons]
    omega
theorem joinB_spans_le (l : List Spn) : (joinB (l.map spanText)).size ≤ 31 * l.length := by
  have := joinB_le (l.map spanText) (fun s hs => by
    obtain ⟨x, _, rfl⟩ := List.mem_map.1 hs
    exact spanText_le x)
  simpa using this
theorem spansText_le (l : List Spn) : (spansText l).size ≤ 2000 := by
  unfold spansText
  cases h : spansB l
  · simp only [Bool.false_eq_true, if_false]
    show 0 ≤ 2000; omega
  · have hl : l.length ≤ 64 := by simp [spansB] at h; exact h.1
    simp only [if_true]
    split
    · show 6 ≤ 2000; omega
    · have := joinB_spans_le l; omega

/-- what may be, span by span -/
theorem spanGo_mem : ∀ {l : List Spn} {le : Int}, spanGo le l = true → ∀ s ∈ l, s.lo.ok = true ∧ s.hi.ok = true ∧ s.lo.rank ≤ s.hi.rank := by
  intro l
  induction l with
  | nil => intro le _ s hs; cases hs
  | cons x l ih =>
    intro le h s hs
    simp only [spanGo, Bool.and_eq_true, decide_eq_true_eq] at h
    rcases List.mem_cons.1 hs with rfl | hs
    · exact ⟨h.1.1.1.1, h.1.1.1.2, h.1.2⟩
    · exact ih h.2 s hs
theorem spansB_mem {l : List Spn} (h : spansB l = true) : ∀ s ∈ l, s.lo.ok = true ∧ s.hi.ok = true ∧ s.lo.rank ≤ s.hi.rank := by
  simp only [spansB, Bool.and_eq_true] at h
  exact spanGo_mem h.2
theorem Ver.rank_ok {v : Ver} (h : v.ok = true) : v.rank = rankI v.major v.minor v.patch := by
  unfold Ver.rank rankR
  rw [if_pos (show verB v.major v.minor v.patch = true from h)]
end Go.Proofs.YthbnmehbhpakaaaGreatDoor
/-
  The program's ranks of spans, walked.
-/
set_option autoImplicit false
set_option relaxedAutoImplicit false
set_option linter.unusedVariables false
set_option linter.unusedSimpArgs false
namespace Go.Proofs.YthbnmehbhpakaaaGreatDoor
open Go.Rows Go.RowKit Go.Shelf Go.Sort

def rRnk : Rp (Int × Int) where
  size := 2
  holds := fun _ _ x cs => cs = [.int .i64 x.1, .int .i64 x.2] ∧ I64 x.1 ∧ I64 x.2
  len := fun ⟨h, _⟩ => by rw [h]; rfl
  one := fun ⟨h, _⟩ => by rw [h]; simp [Value.oneCell']
  mono := fun h _ => h
theorem elt_rnk : Elt Tryz.prog 211 2 16 := Elt.mk' (z := .agg #[.int .i64 0, .int .i64 0]) (by kernel_rfl) rfl (by decide)

theorem bgrown {α : Type} {r : Rp α} {w W W' : World} {e : TypeId} {v : Value} {l : List α} {S : Nat → Prop} (h : Below w.heap.size w W) (hg : W.grownBy W' v.ownBlock) {B : Nat} (hown : Own r W B e v l S) (hB : w.heap.size ≤ B) : Below w.heap.size w W' :=
  h.grown hg h.size (fun g' hg' => Nat.le_trans hB (hown.lt g' hg').1)

theorem Own.slvB {α : Type} {r : Rp α} {w : World} {base : Nat} {e : TypeId} {v : Value} {l : List α} (h : Own r w base e v l (fun _ => False)) : SlV r w (fun b => base ≤ b) l v :=
  h.slv.more fun b hb _ => by rcases hb with h | h; exact h.elim; exact h
set_option maxHeartbeats 1000000 in
theorem numbersO_any (A : Option Addr) (n c : Nat) (l : List Spn) (w : World) (S : Nat → Prop) (hmax : l.length ≤ 1000000000) (hl : SlV rSpn w S l (.slice A n c)) :
    Calls Tryz.prog 190 #[.slice A n c] w fun e w' => ∃ v, e = .returned v ∧ Own rRnk w' w.heap.size 211 v (l.map fun s => (s.lo.rank, s.hi.rank)) (fun _ => False) ∧ Below w.heap.size w w' := by
  have hnx := hl.n_eq
  have hl' := hl.more (S' := fun b => b < w.heap.size) fun b _ hlt => hlt
  have hn63 : n ≤ 1000000000 := by omega
  have Hnx := Lib.hid hnx; clear hnx
  clear hl
  go_enter Tryz.func190, Tryz.ntmps190
  go_wp2_with fail
  go_loopw [3, 12] (fun v i wr => ∃ (k : Nat), k ≤ n ∧ i = .int .i64 k ∧ Hid (Own rRnk wr w.heap.size 211 v ((l.take k).map fun s => (s.lo.rank, s.hi.rank)) (fun _ => False)) ∧ Below w.heap.size w wr) (fun _ i _ => n - (intOf i).toNat)
  case atStart => exact ⟨0, Nat.zero_le _, rfl, Own.nil_ _ _ _ _ (fun b hb => hb.elim), Below.refl _ _⟩
  case round =>
    obtain ⟨k, hk, rfl, Hown, hbel⟩ := hrel
    by_cases hlt : k < n
    · have hkx : k < l.length := by have := Hnx.out; omega
      have hlw := hl'.below hbel (fun b hb => hb)
      have hbw := hbel.size
      obtain ⟨b, o, cs, rfl, hSb, hbl, hsp, hcell⟩ := hlw.elem (List.getElem?_eq_getElem hkx)
      obtain ⟨rfl, _, _, _, _, _, _⟩ := hsp
      have c0 := hcell 0 _ rfl
      have c1 := hcell 1 _ rfl
      have c2 := hcell 2 _ rfl
      have c3 := hcell 3 _ rfl
      have c4 := hcell 4 _ rfl
      have c5 := hcell 5 _ rfl
      simp only [rSpn, Nat.add_zero, Nat.mul_one] at c0 c1 c2 c3 c4 c5
      clear hcell
      have Htk : Hid ((l.take (k + 1)).map (fun s => (s.lo.rank, s.hi.rank)) = (l.take k).map (fun s => (s.lo.rank, s.hi.rank)) ++ [(l[k].lo.rank, l[k].hi.rank)]) := by
        unfold Hid; rw [List.take_succ_eq_append_getElem hkx, List.map_append]; rfl
      have hlen : ((l.take k).map fun s => (s.lo.rank, s.hi.rank)).length = k := by simp; omega
      clear hlw
      have hkn : (k : Int) < (n : Int) := by omega
      generalize l[k] = s at *
      obtain ⟨⟨x1, x2, x3⟩, ⟨x4, x5, x6⟩⟩ := s
      simp only at c0 c1 c2 c3 c4 c5
      have H1 := Lib.hid (fun W => versRank_any x1 x2 x3 W)
      have H2 := Lib.hid (fun W => versRank_any x4 x5 x6 W)
      obtain ⟨p1, p2⟩ := rankR_bounds x1 x2 x3
      obtain ⟨q1, q2⟩ := rankR_bounds x4 x5 x6
      have Htk' : Hid ((l.take (k + 1)).map (fun s => (s.lo.rank, s.hi.rank)) = (l.take k).map (fun s => (s.lo.rank, s.hi.rank)) ++ [(rankR x1 x2 x3, rankR x4 x5 x6)]) := Htk.out
      clear Htk
      generalize (l.take k).map (fun s => (s.lo.rank, s.hi.rank)) = done at *
      generalize rankR x1 x2 x3 = r1 at *
      generalize rankR x4 x5 x6 = r2 at *
      generalize verB x1 x2 x3 = v1 at *
      generalize verB x4 x5 x6 = v2 at *
      have Hlen := Lib.hid hlen; clear hlen
      go_wp2_with fail
      refine (H1.out _).mono ?_
      rintro e w1 ⟨rfl, hb1⟩
      have e3 := hb1.cell (p := ⟨wr.heap.size, 3, none⟩) (by simp)
      have e4 := hb1.cell (p := ⟨wr.heap.size, 4, none⟩) (by simp)
      have e5 := hb1.cell (p := ⟨wr.heap.size, 5, none⟩) (by simp)
      simp [go_sem] at e3 e4 e5
      have Hb1 := Lib.hid (bnew hb1)
      clear hb1
      go_wp2_with fail
      refine (H2.out _).mono ?_
      rintro e w2 ⟨rfl, hb2⟩
      have Hb2 := Lib.hid (bot Hb1.out hb2)
      clear hb2 e3 e4 e5 c0 c1 c2 c3 c4 c5
      have HB := Lib.hid (bot hbel Hb2.out)
      have Hown2 := Lib.hid (Hown.out.keep Hb2.out)
      have hw2 := HB.out.size
      go_wp2_with (at_builtin; refine wpList_push (by rfl) _ _ _ (by rfl) elt_rnk Tryz.underlying206 (by rfl) (Hown2.out.alloc _) ⟨w2.heap.size, 0, none⟩ 1 [.int .i64 r1, .int .i64 r2] (r1, r2) (by rfl) ⟨rfl, ⟨by omega, by omega⟩, by omega, by omega⟩ (news_of w2 #[.int .i64 r1, .int .i64 r2] _) (by rw [Hlen.out]; unfold maxLen; omega) (by rw [Hlen.out]; omega) (by simp; omega) (w2.heap.size + 1) (by simp) ?_)
      intro g cap w3 hown3 hgrow hat hg3
      have HB3 := Lib.hid (bgrown (bal HB.out _) hgrow (Hown2.out.alloc _) (Nat.le_refl _))
      have Hown3 := Lib.hid hown3
      clear hown3 hgrow
      go_wp2_with fail
      go_roundw
      case rel => exact ⟨k + 1, by omega, by go_num, by unfold Hid; rw [Htk'.out]; exact Hown3.out, HB3.out⟩
      case measure => simp [intOf]; omega
    · have hkn : k = l.length := by have := Hnx.out; omega
      have hs := Hown.out
      rw [hkn, List.take_length] at hs
      clear hkn
      go_wp2_with fail
      go_ret
      exact ⟨_, rfl, hs, hbel⟩
theorem numbers_any (A : Option Addr) (n c : Nat) (l : List Spn) (w : World) (S : Nat → Prop) (hmax : l.length ≤ 1000000000) (hl : SlV rSpn w S l (.slice A n c)) :
    Calls Tryz.prog 190 #[.slice A n c] w fun e w' => ∃ v, e = .returned v ∧ SlV rRnk w' (fun b => w.heap.size ≤ b) (l.map fun s => (s.lo.rank, s.hi.rank)) v ∧ Below w.heap.size w w' :=
  (numbersO_any A n c l w S hmax hl).mono fun e w' ⟨v, he, ho, hb⟩ => ⟨v, he, ho.slvB, hb⟩
end Go.Proofs.YthbnmehbhpakaaaGreatDoor
