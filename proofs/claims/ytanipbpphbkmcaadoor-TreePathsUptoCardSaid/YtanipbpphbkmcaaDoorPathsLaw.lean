/-
  The law TreePaths, walked.
-/
import Derived.Test.YtanipbpphbkmcaaDoorParseR
import Derived.Test.YtanipbpphbkmcaaDoorLives
set_option autoImplicit false
set_option relaxedAutoImplicit false
set_option linter.unusedVariables false
set_option linter.unusedSimpArgs false
namespace Go.Proofs.YtanipbpphbkmcaaDoor
open Go.Rows Go.RowKit Go.Shelf Go.Sort

theorem joined_ne {p : List ByteArray} (h : p ≠ []) : joined p ≠ [47] := by
  cases p with
  | nil => exact absurd rfl h
  | cons a t =>
    rw [joined, List.append_assoc, step_cons]
    intro e
    cases e
/-- a path's text, read again -/
theorem parseR_textB {p : List ByteArray} (h : textB p ≠ ⟨#[]⟩) : parseR (textB p) = (p, true) := by
  unfold textB at h ⊢
  by_cases h0 : p = []
  · subst h0
    rw [if_pos rfl]
    unfold parseR
    rw [if_pos rfl]
  · rw [if_neg h0] at h ⊢
    split at h
    · rename_i hall
      rw [if_pos hall]
      have hne : (⟨(joined p).toArray⟩ : ByteArray) ≠ ⟨#[47]⟩ := by
        intro e
        have : joined p = [47] := by
          have := congrArg (fun b : ByteArray => b.data.toList) e
          simpa using this
        exact joined_ne h0 this
      unfold parseR
      rw [if_neg hne, pathOf_some h0 hall (by simp)]
    · exact absurd rfl h
/-- what a text is read as has it as its text -/
theorem textB_parseR {s : ByteArray} (h : (parseR s).2 = true) : textB (parseR s).1 = s := by
  unfold parseR at h ⊢
  by_cases h0 : s = ⟨#[47]⟩
  · rw [if_pos h0, h0]; rfl
  · rw [if_neg h0] at h ⊢
    rcases hp : pathOf s with _ | p
    · rw [hp] at h; cases h
    · exact textB_pathOf hp
theorem parseR_len (s : ByteArray) : (parseR s).1.length ≤ s.size := by
  unfold parseR
  by_cases h0 : s = ⟨#[47]⟩
  · rw [if_pos h0]; exact Nat.zero_le _
  · rw [if_neg h0]
    rcases hp : pathOf s with _ | p
    · exact Nat.zero_le _
    · obtain ⟨_, _, h2⟩ := pathOf_spec hp
      have hj : ∀ l : List ByteArray, l.length ≤ (joined l).length := by
        intro l
        induction l with
        | nil => exact Nat.le_refl _
        | cons a t ih =>
          rw [joined, List.length_append, List.length_append, show stepB.data.toList.length = 9 by decide +kernel, List.length_cons]
          omega
      have := hj p
      rw [h2, ← size_data] at this
      exact this
theorem textB_size {p : List ByteArray} : (textB p).size ≤ 25 * p.length + 1 := by
  unfold textB
  by_cases h0 : p = []
  · rw [if_pos h0]; show 1 ≤ _; omega
  · rw [if_neg h0]
    split
    · rename_i hall
      have := joined_len hall
      rw [size_data]
      simp only [List.size_toArray]
      omega
    · show 0 ≤ _; omega

set_option maxHeartbeats 1600000 in
set_option maxRecDepth 100000 in
theorem treePaths_any (A : Option Addr) (n c : Nat) (xs : List ByteArray) (s : ByteArray) (w : World) (ht : Tab w) (hm : MaxL w) (hx : SlV rStr w (fun b => b < w.heap.size) xs (.slice A n c)) (hxl : xs.length ≤ 1048576) (hs : s.size ≤ 1048576) :
    Calls Tryd.prog 6 #[.slice A n c, .string s] w fun e w' => e = .returned (.bool true) ∧ Below w.heap.size w w' := by
  have Hx := Lib.hid hx
  have Htx : Hid (∀ W, Below w.heap.size w W → Calls Tryd.prog 14 #[.slice A n c] W fun e w' => e = .returned (.string (textB xs)) ∧ Below W.heap.size W w') := fun W hW => treeText_any _ _ _ xs W (fun b => b < W.heap.size) (fun b h => h) (by omega) ((hx.belowSize hW).more fun b h h' => h')
  have Hrt : Hid (∀ W, Below w.heap.size w W → Calls Tryd.prog 18 #[.slice A n c] W fun e w' => e = .returned (.string (textB xs)) ∧ W = w') := fun W hW => refText_any _ _ _ xs W _ (by omega) (hx.belowSize hW)
  have Hps : Hid (∀ (t : ByteArray) W, t.size ≤ 67108864 → Below w.heap.size w W → Calls Tryd.prog 15 #[.string t] W fun e w' => (∃ v, e = .returned (.tuple #[v, .bool (parseR t).2]) ∧ SlV rStr w' (fun _ => True) (parseR t).1 v) ∧ Below W.heap.size W w') := fun t W ht hW => parse_any t W ht (hm.below hW)
  have Hpr : Hid (∀ W, Calls Tryd.prog 16 #[.string s] W fun e w' => (∃ v, e = .returned (.tuple #[v, .bool (parseR s).2]) ∧ SlV rStr w' (fun _ => True) (parseR s).1 v) ∧ Below W.heap.size W w') := fun W => refParse_any s W (by omega)
  have Hlv : Hid (∀ W, Below w.heap.size w W → Calls Tryd.prog 9 #[] W fun e w' => e = .returned (.bool true) ∧ Below W.heap.size W w') := fun W hW => lives_any W (tab_below ht hW)
  have Hback := Lib.hid (@parseR_textB xs)
  have Hagain := Lib.hid (@textB_parseR s)
  have Hpl := Lib.hid (parseR_len s)
  have Htz : Hid ((textB xs).size ≤ 67108864) := by have := textB_size (p := xs); unfold Hid; omega
  clear hx ht hm
  go_enter Tryd.func6, Tryd.ntmps6
  go_wp2_with fail
  refine (Htx.out w (Below.refl _ _)).mono ?_
  rintro e w1 ⟨rfl, B1⟩
  have Q1 := Lib.hid B1; clear B1
  go_wp2_with fail
  refine (Hps.out s w1 (by omega) Q1.out).mono ?_
  rintro e w2 ⟨⟨v, rfl, hv⟩, B2⟩
  obtain ⟨vA, vc, rfl, hvl, hvm⟩ := hv.val
  have Q2 := Lib.hid (bot Q1.out B2)
  have HV := Lib.hid hv
  clear B2 hv
  go_wp2_with fail
  refine (Hpr.out w2).mono ?_
  rintro e w3 ⟨⟨u, rfl, hu⟩, B3⟩
  obtain ⟨uA, uc, rfl, hul, hum⟩ := hu.val
  have Q3 := Lib.hid (bot Q2.out B3)
  have HV3 := Lib.hid (HV.out.belowSize B3)
  have HU := Lib.hid hu
  clear B3 hu HV
  go_wp2_with fail
  have Hpt := refPath_any _ _ _ _ _ _ _ _ w3 _ _ HV3.out HU.out
  rw [eqB_true rfl] at Hpt
  refine Hpt.mono ?_
  rintro e w4 ⟨rfl, B4⟩
  have Q4 := Lib.hid (bot Q3.out B4)
  have HV4 := Lib.hid (HV3.out.belowSize B4)
  clear B4 Hpt HV3 HU
  generalize hpp : (parseR s).1 = pp at *
  generalize hqq : (parseR s).2 = qq at *
  have Hpp := Lib.hid hpp
  have Hqq := Lib.hid hqq
  clear hpp hqq
  have HT : Hid (textB xs = textB xs) := rfl
  generalize htt : textB xs = tt at *
  have Htt := Lib.hid htt
  clear htt
  go_wp2_with fail
  refine (Hrt.out w4 Q4.out).mono ?_
  rintro e w5 ⟨rfl, rfl⟩
  have hqb : (qq != qq) = false := by cases qq <;> rfl
  have Hback2 : Hid (tt ≠ ⟨#[]⟩ → parseR tt = (xs, true)) := fun h => Hback.out h
  have Hagain2 : Hid (qq = true → textB pp = s) := fun h => Hagain.out h
  have Hpl2 : Hid (pp.length ≤ 1048576) := by have := Hpl.out; unfold Hid; omega
  have Hx4 := Lib.hid (Hx.out.belowSize Q4.out)
  clear Hback Hagain Hpl Hpp Hqq HT Htt
  refine dite (tt = ⟨#[]⟩) (fun hte => ?_) (fun hte => ?_)
  focus
    have htl : tt.toList = [] := by rw [hte, Go.ByteArray.toList_eq]
    have htm : tt.toList.isEmpty = true := by rw [htl]; rfl
    have hts : tt.size = 0 := by rw [hte]; rfl
    clear hte Hback2
    obtain ⟨w6, hw6⟩ : ∃ w6, w6 = w4 := ⟨_, rfl⟩
    have Q6 : Hid (Below w.heap.size w w6) := by rw [hw6]; exact Q4.out
    have HV6 : Hid (SlV rStr w6 (fun _ => True) pp (.slice vA pp.length vc)) := by rw [hw6]; exact HV4.out
    rw [← hw6]
    clear hw6
  rotate_left
  focus
    have htl : ¬ tt.toList = [] := fun h => hte (ByteArray.ext (Array.ext' (by rw [Go.ByteArray.toList_eq] at h; exact h)))
    have htm : tt.toList.isEmpty = false := by cases e : tt.toList with | nil => exact absurd e htl | cons => rfl
    have HB2 := Lib.hid (Hback2.out hte)
    clear hte Hback2
    go_wp2_with fail
    refine (Hps.out tt w4 Htz.out Q4.out).mono ?_
    rintro e w5 ⟨⟨t, rfl, hv5⟩, B5⟩
    rw [HB2.out] at hv5 ⊢
    obtain ⟨tA, tc, rfl, _, _⟩ := hv5.val
    have hv5 : SlV rStr w5 (fun _ => True) xs (.slice tA xs.length tc) := hv5
    have hxn := Hx4.out.n_eq
    have Hpt := refPath_any _ _ _ _ _ _ _ _ w5 _ _ hv5 (Hx4.out.belowSize B5)
    rw [eqB_true rfl] at Hpt
    have Q5 := Lib.hid (bot Q4.out B5)
    have HV5 := Lib.hid (HV4.out.belowSize B5)
    clear hv5 B5 hxn
    go_wp2_with fail
    refine Hpt.mono ?_
    rintro e w6 ⟨rfl, B6⟩
    have Q6 := Lib.hid (bot Q5.out B6)
    have HV6 := Lib.hid (HV5.out.belowSize B6)
    clear B6 Hpt
  all_goals
    cases hq : qq
    · clear Hagain2 hqb
      go_wp2_with fail
      refine (Hlv.out w6 Q6.out).mono ?_
      rintro e w8 ⟨rfl, B8⟩
      go_wp2_with fail
      go_ret
      exact ⟨rfl, bot Q6.out B8⟩
    · have Hag := Lib.hid (Hagain2.out hq)
      clear Hagain2 hqb hq
      go_wp2_with fail
      refine (treeText_any _ _ _ pp w6 (fun b => b < w6.heap.size) (fun b h => h) (by have := Hpl2.out; omega) (HV6.out.more fun b _ h => h)).mono ?_
      rintro e w7 ⟨rfl, B7⟩
      have Q7 := Lib.hid (bot Q6.out B7)
      rw [Hag.out]
      have hss : (s.toList == s.toList) = true := by simp
      clear B7
      go_wp2_with fail
      refine (Hlv.out w7 Q7.out).mono ?_
      rintro e w8 ⟨rfl, B8⟩
      go_wp2_with fail
      go_ret
      exact ⟨rfl, bot Q7.out B8⟩
end Go.Proofs.YtanipbpphbkmcaaDoor
