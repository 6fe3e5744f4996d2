/-
  The document's Parse: name by name.
-/
import Derived.Test.YtkpbpnecmfadlaaGreatDoorParse
set_option autoImplicit false
set_option relaxedAutoImplicit false
set_option linter.unusedVariables false
set_option linter.unusedSimpArgs false
namespace Go.Proofs.YtkpbpnecmfadlaaGreatDoor
open Go.Rows Go.RowKit Go.Shelf Go.Sort

/-- the answer, of the names that the whole text is -/
def parseRest : Option (List ByteArray) → List ByteArray × Bool
  | none => ([], false)
  | some p => (p, decide (0 < p.length))
theorem parseR_rest {s : ByteArray} (h : s ≠ ⟨#[47]⟩) : parseR s = parseRest (restOf s.data.toList) := by
  unfold parseR
  rw [if_neg h, pathOf_rest]
  rcases restOf s.data.toList with _ | p
  · rfl
  · cases p <;> rfl
theorem extract_step {s : ByteArray} {p : Nat} (h : p + 9 ≤ s.size) (he : s.extract p (p + 9) = stepB) : s.data.toList.drop p = stepB.data.toList ++ s.data.toList.drop (p + 9) := by
  have h1 : (s.extract p (p + 9)).data.toList = (s.data.toList.drop p).take 9 := by rw [Lib.extract_data]; congr 1; omega
  rw [he] at h1
  rw [h1, ← List.drop_drop, List.take_append_drop]
theorem extract_nostep {s : ByteArray} {p : Nat} (h : p + 9 ≤ s.size) (he : s.extract p (p + 9) ≠ stepB) : stepB.data.toList.isPrefixOf (s.data.toList.drop p) = false := by
  cases hp : stepB.data.toList.isPrefixOf (s.data.toList.drop p)
  · rfl
  · exfalso
    obtain ⟨t, ht⟩ := List.isPrefixOf_iff_prefix.1 hp
    apply he
    apply ByteArray.ext
    apply Array.ext'
    rw [Lib.extract_data, ← ht, show p + 9 - p = stepB.data.toList.length by rw [show stepB.data.toList.length = 9 by decide +kernel]; omega, List.take_left]
theorem short_nostep {s : ByteArray} {p : Nat} (h : s.size < p + 9) : stepB.data.toList.isPrefixOf (s.data.toList.drop p) = false := by
  cases hp : stepB.data.toList.isPrefixOf (s.data.toList.drop p)
  · rfl
  · exfalso
    obtain ⟨t, ht⟩ := List.isPrefixOf_iff_prefix.1 hp
    have := congrArg List.length ht
    rw [List.length_append, List.length_drop, ← size_data s, show stepB.data.toList.length = 9 by decide +kernel] at this
    omega
theorem drop_name {s : ByteArray} {p q : Nat} (hpq : p ≤ q) (hq : q ≤ s.size) : s.data.toList.drop p = (s.extract p q).data.toList ++ s.data.toList.drop q := by
  rw [Lib.extract_data]
  conv => lhs; rw [← List.take_append_drop (q - p) (s.data.toList.drop p)]
  rw [List.drop_drop, show p + (q - p) = q by omega]

theorem extract_next {s : ByteArray} {a q : Nat} (h : a ≤ q) (hq : q < s.size) : (s.extract a (q + 1)).data.toList = (s.extract a q).data.toList ++ [s[q]] := by
  rw [Lib.extract_data, Lib.extract_data, show q + 1 - a = (q - a) + 1 by omega, List.take_add_one]
  congr 1
  rw [List.getElem?_drop, show a + (q - a) = q by omega]
  have := byte_at s q hq
  have h2 : s.data.toList[q]? = (s.data.toList.drop q)[0]? := by rw [List.getElem?_drop, Nat.add_zero]
  rw [h2, this]
  rfl
set_option maxHeartbeats 1600000 in
set_option maxRecDepth 100000 in
theorem refParse_any (s : ByteArray) (w : World) (hs : s.size ≤ 67108864) :
    Calls Tryz.prog 25 #[.string s] w fun e w' => (∃ v, e = .returned (.tuple #[v, .bool (parseR s).2]) ∧ SlV rStr w' (fun _ => True) (parseR s).1 v) ∧ Below w.heap.size w w' := by
  by_cases h1 : s = ⟨#[47]⟩
  · have hb : (s.toList == [47]) = true := slash_true h1
    have He : Hid (parseR s = ([], true)) := by unfold Hid parseR; rw [if_pos h1]
    clear h1 hs
    generalize parseR s = R at *
    go_enter Tryz.func25, Tryz.ntmps25
    go_wp2_with fail
    go_ret2
    refine ⟨⟨_, ret_pairB He.out, ?_⟩, Below.refl _ _⟩
    rw [He.out]; exact SlV.nil_ _ _ _
  have hb : (s.toList == [47]) = false := slash_false h1
  have HR : Hid (parseR s = parseRest (restOf s.data.toList)) := parseR_rest h1
  clear h1
  generalize parseR s = R at *
  have hsz := size_data s
  have Hsz := Lib.hid hsz
  clear hsz
  go_enter Tryz.func25, Tryz.ntmps25
  go_wp2_with fail
  go_loopw [4, 5] (fun v i wr => ∃ (p : Nat) (out : List ByteArray), p ≤ s.size ∧ i = .int .i64 p ∧ out.length ≤ p ∧ Hid (R = parseRest ((restOf (s.data.toList.drop p)).map (out ++ ·))) ∧ Hid (Own rStr wr w.heap.size 9 v out (fun _ => False)) ∧ Below w.heap.size w wr) (fun _ i _ => s.size - (intOf i).toNat)
  case atStart => exact ⟨0, [], Nat.zero_le _, rfl, Nat.le_refl _, by
    unfold Hid; rw [HR.out, List.drop_zero]; cases restOf s.data.toList <;> rfl, Own.nil_ rStr w w.heap.size 9 (S := fun _ => False) (fun b h => h.elim), Below.refl _ _⟩
  case round =>
    obtain ⟨p, out, hp, rfl, hol, hR, Hown, hbel⟩ := hrel
    have hp0 : (0 : Int) ≤ (p : Int) := by omega
    by_cases hlt : p < s.size
    case neg =>
      have hpI : ¬ (p : Int) < (s.size : Int) := by omega
      have He : Hid (R = (out, decide (0 < out.length))) := by
        unfold Hid; rw [hR.out, List.drop_eq_nil_of_le (by rw [← Hsz.out]; omega), restOf_nil]
        simp [parseRest]
      have hsv := Hown.out.slv
      obtain ⟨oA, oc, rfl, _, _⟩ := hsv.val
      have Hsv := Lib.hid hsv
      clear hlt hsv hR Hown
      go_wp2_with fail
      go_ret2
      refine ⟨⟨_, ret_pairB He.out, ?_⟩, hbel⟩
      rw [He.out]; exact Hsv.out.more fun _ _ _ => trivial
    have hpI : (p : Int) < (s.size : Int) := by omega
    have hw9 : IntKind.i64.wrap ((p : Int) + 9) = (p : Int) + 9 := IntWalk.i64_in _ ⟨by omega, by omega⟩
    by_cases hsh : s.size < p + 9
    · have hshI : (s.size : Int) < (p : Int) + 9 := by omega
      have hshd : decide ((s.size : Int) < (p : Int) + 9) = true := decide_eq_true hshI
      have He : Hid (R = ([], false)) := by
        unfold Hid; rw [hR.out, restOf_noprefix (by rw [← List.length_pos_iff, List.length_drop, ← Hsz.out]; omega) (short_nostep hsh)]; rfl
      clear hsh hlt hR Hown
      go_wp2_with fail
      go_ret2
      refine ⟨⟨_, ret_pairB He.out, ?_⟩, hbel⟩
      rw [He.out]; exact SlV.nil_ _ _ _
    have hshI : ¬ (s.size : Int) < (p : Int) + 9 := by omega
    have hshd : decide ((s.size : Int) < (p : Int) + 9) = false := decide_eq_false hshI
    have hp9 : p + 9 ≤ s.size := by omega
    by_cases hst : s.extract p (p + 9) = stepB
    case neg =>
      have hne : ((s.extract p (p + 9)).toList == [47, 109, 111, 100, 117, 108, 101, 115, 47]) = false := by
        have : (s.extract p (p + 9)).toList ≠ [47, 109, 111, 100, 117, 108, 101, 115, 47] := fun e => hst (ByteArray.ext (Array.ext' (by rw [Go.ByteArray.toList_eq] at e; rw [e]; decide +kernel)))
        simpa using this
      have He : Hid (R = ([], false)) := by
        unfold Hid; rw [hR.out, restOf_noprefix (by rw [← List.length_pos_iff, List.length_drop, ← Hsz.out]; omega) (extract_nostep hp9 hst)]; rfl
      clear hst hsh hlt hR Hown
      go_wp2_with fail
      go_ret2
      refine ⟨⟨_, ret_pairB He.out, ?_⟩, hbel⟩
      rw [He.out]; exact SlV.nil_ _ _ _
    have hne : ((s.extract p (p + 9)).toList == [47, 109, 111, 100, 117, 108, 101, 115, 47]) = true := by
      rw [hst, Go.ByteArray.toList_eq]; decide +kernel
    have Hdp := Lib.hid (extract_step hp9 hst)
    have Hlt := Lib.hid hlt
    clear hst hsh hlt
    go_wp2_with fail
    obtain ⟨wo, hwo⟩ : ∃ wo, wo = wr := ⟨_, rfl⟩
    rw [← hwo] at Hown hbel ⊢
    clear hwo
    have Hbel := Lib.hid hbel; clear hbel
    go_loopw [6] (fun i wi => ∃ q : Nat, p + 9 ≤ q ∧ q ≤ s.size ∧ i = .int .i64 q ∧ Hid (∀ b ∈ (s.extract (p + 9) q).data.toList, (b != 47) = true) ∧ wi = wo) (fun i _ => s.size - (intOf i).toNat)
    case atStart => exact ⟨p + 9, Nat.le_refl _, hp9, by go_num, by unfold Hid; intro b hb; rw [Lib.extract_data] at hb; simp at hb, rfl⟩
    case round =>
      obtain ⟨q, hq1, hq2, rfl, Hno, rfl⟩ := hrel
      have hq0 : (0 : Int) ≤ (q : Int) := by omega
      by_cases hgo : ∃ h : q < s.size, (s[q] != 47) = true
      · obtain ⟨hlt, hby⟩ := hgo
        have hqI : (q : Int) < (s.size : Int) := by omega
        have hbn : ((s[q].toNat : Int) != 47) = true := by
          simp at hby ⊢
          intro e
          apply hby
          apply UInt8.toNat_inj.1
          have : s[q].toNat = 47 := by omega
          rw [this]; rfl
        have Hn2 : Hid (∀ b ∈ (s.extract (p + 9) (q + 1)).data.toList, (b != 47) = true) := by
          unfold Hid
          intro b hb
          have e : (s.extract (p + 9) (q + 1)).data.toList = (s.extract (p + 9) q).data.toList ++ [s[q]] := extract_next hq1 hlt
          rw [e, List.mem_append] at hb
          rcases hb with hb | hb
          · exact Hno.out b hb
          · simp at hb; subst hb; exact hby
        clear hby
        go_wp2_with fail
        go_roundw
        case rel => exact ⟨q + 1, by omega, by omega, by go_num, Hn2, trivial⟩
        case measure => simp [intOf]; omega
      have hend : Hid (s.data.toList.drop q = [] ∨ ∃ t, s.data.toList.drop q = 47 :: t) := by
        by_cases hlt : q < s.size
        · refine .inr ⟨s.data.toList.drop (q + 1), ?_⟩
          have hb := byte_at s q hlt
          rw [hb]
          congr 1
          have : ¬ (s[q] != 47) = true := fun h => hgo ⟨hlt, h⟩
          simpa using this
        · exact .inl (List.drop_eq_nil_of_le (by rw [← Hsz.out]; omega))
      have Hdn := Lib.hid (drop_name hq1 hq2)
      have hex : (s.extract (p + 9) q).size ≤ s.size := by rw [ByteArray.size_extract]; omega
      have HNm : Hid (∀ W, Calls Tryz.prog 26 #[.string (s.extract (p + 9) q)] W fun e w' => e = .returned (.bool (nameB (s.extract (p + 9) q))) ∧ W = w') := fun W => refName_any _ (by unfold maxLen; omega) W
      have HRt : Hid (nameB (s.extract (p + 9) q) = true → R = parseRest ((restOf (s.data.toList.drop q)).map ((out ++ [s.extract (p + 9) q]) ++ ·))) := fun h => by
        rw [hR.out, Hdp.out, Hdn.out, restOf_step Hno.out hend.out h]
        cases restOf (s.data.toList.drop q) with
        | none => rfl
        | some t =>
          show parseRest (some (out ++ (_ :: t))) = parseRest (some ((out ++ [_]) ++ t))
          rw [List.append_assoc]; rfl
      have HRf : Hid (nameB (s.extract (p + 9) q) = false → R = ([], false)) := fun h => by
        rw [hR.out, Hdp.out, Hdn.out, restOf_bad Hno.out hend.out h]; rfl
      have hpq : p + 9 ≤ q := hq1
      have hpqI : (p : Int) + 9 ≤ (q : Int) := by omega
      have hp90 : (0 : Int) ≤ (p : Int) + 9 := by omega
      have hqs : (q : Int) ≤ (s.size : Int) := by omega
      have Hex : Hid ((s.extract (p + 9) q).size ≤ maxLen) := by unfold Hid maxLen; omega
      have hcase : (¬ q < s.size) ∨ (∃ h : q < s.size, ((s[q].toNat : Int) != 47) = false) := by
        by_cases hlt : q < s.size
        · refine .inr ⟨hlt, ?_⟩
          have : ¬ (s[q] != 47) = true := fun h => hgo ⟨hlt, h⟩
          have h47 : s[q] = 47 := by simpa using this
          rw [h47]; rfl
        · exact .inl hlt
      clear hgo hR Hdp Hdn hend Hno hex
      have hTn : ((p : Int) + 9).toNat = p + 9 := by omega
      obtain ⟨lo, hlo⟩ : ∃ lo, out.length = lo := ⟨_, rfl⟩
      have Hlen : Hid (out.length = lo) := hlo
      rw [hlo] at hol
      clear hlo
      have hlo63 : lo ≤ 67108864 := by omega
      generalize nameB (s.extract (p + 9) q) = nb at *
      rcases hcase with hlt | ⟨hlt, hb47⟩
      all_goals
        try (have hqI : ¬ (q : Int) < (s.size : Int) := by omega)
        try (have hqJ : (q : Int) < (s.size : Int) := by omega)
        go_wp2_with fail
        refine (HNm.out _).mono ?_
        rintro e w2 ⟨rfl, rfl⟩
        cases hnb : nb
        · have He := Lib.hid (HRf.out hnb)
          clear hnb HRf HRt
          go_wp2_with fail
          go_ret2
          refine ⟨⟨_, ret_pairB He.out, ?_⟩, Hbel.out⟩
          rw [He.out]; exact SlV.nil_ _ _ _
        · have HR2 := Lib.hid (HRt.out hnb)
          clear hnb HRf HRt
          have hwr := Hbel.out.size
          go_wp2_with (at_builtin; refine wpList_push (by rfl) _ _ _ (by rfl) elt_string Tryz.underlying52 (by rfl) (Hown.out.alloc _) ⟨wr.heap.size, 0, none⟩ 1 [.string (s.extract (p + 9) q)] (s.extract (p + 9) q) (by rfl) ⟨rfl, Hex.out⟩ (news_of wr #[.string (s.extract (p + 9) q)] _) (by rw [Hlen.out]; unfold maxLen; omega) (by rw [Hlen.out]; omega) (by simp; omega) (wr.heap.size + 1) (by simp) ?_)
          intro g9 cap9 w9 hown9 hgrow9 hat9 hlt9
          have HB9 := Lib.hid (bgrown (bal Hbel.out _) hgrow9 (Hown.out.alloc _) (Nat.le_refl _))
          have Hown9 := Lib.hid hown9
          clear hown9 hgrow9
          go_wp2_with fail
          go_roundw
          case rel => exact ⟨q, _, hq2, rfl, by rw [List.length_append, Hlen.out]; simp; omega, HR2, Hown9, HB9.out⟩
          case measure => simp [intOf]; omega
end Go.Proofs.YtkpbpnecmfadlaaGreatDoor
