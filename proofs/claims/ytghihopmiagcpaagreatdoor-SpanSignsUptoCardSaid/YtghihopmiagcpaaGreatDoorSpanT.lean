/-
  Ranges' texts in plain words.
-/
import Derived.Test.YtghihopmiagcpaaGreatDoorSpanI
set_option autoImplicit false
set_option relaxedAutoImplicit false
set_option linter.unusedVariables false
set_option linter.unusedSimpArgs false
namespace Go.Proofs.YtghihopmiagcpaaGreatDoor
open Go.Rows Go.RowKit Go.Shelf Go.Sort

theorem index_no {l : List UInt8} {c : UInt8} {t : List UInt8} (h : c ∉ l) : Lib.index l (c :: t) = -1 := by
  refine Lib.index_none fun j hj => ?_
  unfold Lib.occAt
  by_cases hjl : j < l.length
  · rw [List.drop_eq_getElem_cons hjl]
    simp only [List.isPrefixOf]
    rw [Bool.and_eq_false_iff]
    left
    rw [beq_eq_false_iff_ne]
    intro e
    exact h (e ▸ List.getElem_mem hjl)
  · rw [List.drop_eq_nil_of_le (by omega)]; rfl
theorem spl_no {s sep : ByteArray} {c : UInt8} {t : List UInt8} (hsep : sep.data.toList = c :: t) (h : c ∉ s.data.toList) : spl s sep = [s] := by
  unfold spl
  have hi : Lib.indexB s sep = -1 := by
    show Lib.index s.data.toList sep.data.toList = -1
    rw [hsep]; exact index_no h
  cases hs : s.size with
  | zero => rw [Lib.splitB_zero]
  | succ k => rw [Lib.splitB_miss _ _ _ _ hi]
theorem itoa_first : ∀ k : Fin 1000, (itoaB (k.val : Int)).data.toList ≠ [] := by decide +kernel
theorem itoa_cons {n : Int} (h0 : 0 ≤ n) (h1 : n ≤ 999) : ∃ d r, (itoaB n).data.toList = d :: r ∧ 48 ≤ d.toNat ∧ d.toNat ≤ 57 := by
  have h := itoa_first ⟨n.toNat, by omega⟩
  rw [show ((⟨n.toNat, by omega⟩ : Fin 1000).val : Int) = n by simp; omega] at h
  have ha := (itoa_read h0 h1).2
  cases hl : (itoaB n).data.toList with
  | nil => exact absurd hl h
  | cons d r =>
    rw [hl] at ha
    simp at ha
    exact ⟨d, r, rfl, ha.1⟩
/-- a byte of a version's text -/
def VCh (c : UInt8) : Prop := c = 46 ∨ (48 ≤ c.toNat ∧ c.toNat ≤ 57)
theorem txt_list {v : Ver} (h : v.ok = true) : v.txt.data.toList = (itoaB v.major).data.toList ++ 46 :: ((itoaB v.minor).data.toList ++ 46 :: (itoaB v.patch).data.toList) := by
  have hv : verB v.major v.minor v.patch = true := h
  have : v.txt = itoaB v.major ++ dotB ++ itoaB v.minor ++ dotB ++ itoaB v.patch := by show verText _ _ _ = _; unfold verText; rw [if_pos hv]
  rw [this]
  have hd : dotB.data.toList = [46] := rfl
  simp [ByteArray.data_append, hd]
theorem txt_chars {v : Ver} (h : v.ok = true) : ∀ c ∈ v.txt.data.toList, VCh c := by
  obtain ⟨⟨a0, a1⟩, ⟨b0, b1⟩, c0, c1⟩ := verB_iff.1 (show verB v.major v.minor v.patch = true from h)
  have hq : ∀ {n : Int}, 0 ≤ n → n ≤ 999 → ∀ c ∈ (itoaB n).data.toList, VCh c := fun h0 h1 c hc => by
    have := List.all_eq_true.1 (itoa_read h0 h1).2 c hc
    simp at this
    exact .inr this
  rw [txt_list h]
  intro c hc
  simp only [List.mem_append, List.mem_cons] at hc
  rcases hc with hc | rfl | hc | rfl | hc
  · exact hq a0 a1 c hc
  · exact .inl rfl
  · exact hq b0 b1 c hc
  · exact .inl rfl
  · exact hq c0 c1 c hc
theorem txt_cons {v : Ver} (h : v.ok = true) : ∃ d r, v.txt.data.toList = d :: r ∧ 48 ≤ d.toNat ∧ d.toNat ≤ 57 := by
  obtain ⟨⟨a0, a1⟩, _, _⟩ := verB_iff.1 (show verB v.major v.minor v.patch = true from h)
  obtain ⟨d, r, hd, hr⟩ := itoa_cons a0 a1
  rw [txt_list h, hd]
  exact ⟨d, _, rfl, hr⟩
theorem digit_nosign {c : UInt8} (h : 48 ≤ c.toNat ∧ c.toNat ≤ 57) : signsL.contains c = false := by
  rw [List.contains_eq_any_beq]
  simp only [signsL, List.any_cons, List.any_nil, Bool.or_false, Bool.or_eq_false_iff, beq_eq_false_iff_ne]
  refine ⟨?_, ?_, ?_, ?_, ?_⟩ <;> (intro e; subst e; revert h; decide)
/-- a sign and a version -/
theorem bare_sign {g : ByteArray} {v : Ver} (h : v.ok = true) (hg : ∀ c ∈ g.data.toList, signsL.contains c = true) : bareB (g ++ v.txt) = v.txt ∧ signB (g ++ v.txt) = g := by
  obtain ⟨d, r, hd, hr⟩ := txt_cons h
  have hl : (g ++ v.txt).data.toList = g.data.toList ++ v.txt.data.toList := by simp [ByteArray.data_append]
  have hb : bareB (g ++ v.txt) = v.txt := by
    apply bytes_ext
    show (Lib.trimLeftS _ _).toArray.toList = _
    rw [hl, Lib.trimLeftS_drop _ _ g.data.toList.length (by simp) (fun j b hj hb => ?_) (fun b hb => ?_)]
    · simp
    · rw [List.getElem?_append_left hj] at hb
      exact hg b (List.mem_of_getElem? hb)
    · rw [List.getElem?_append_right (Nat.le_refl _), Nat.sub_self, hd] at hb
      simp at hb
      subst hb
      exact digit_nosign hr
  refine ⟨hb, ?_⟩
  unfold signB
  rw [hb, Lib.extract_upto]
  apply bytes_ext
  have hz : (g ++ v.txt).size - v.txt.size = g.data.toList.length := by
    rw [ByteArray.size_append]
    have : g.size = g.data.toList.length := size_data g
    omega
  rw [hz, hl]
  simp
theorem word_sign {g : ByteArray} {v : Ver} (h : v.ok = true) (hg : ∀ c ∈ g.data.toList, signsL.contains c = true) : wordF (g ++ v.txt) = signRk g.data.toList v := by
  obtain ⟨h1, h2⟩ := bare_sign h hg
  have hne : g ++ v.txt ≠ ⟨#[42]⟩ := fun e => by
    have hl : (g ++ v.txt).data.toList = g.data.toList ++ v.txt.data.toList := by simp [ByteArray.data_append]
    rw [e] at hl
    obtain ⟨d, r, hd, hr⟩ := txt_cons h
    have hmem : d ∈ [(42 : UInt8)] := by
      show d ∈ (⟨#[42]⟩ : ByteArray).data.toList
      rw [hl, hd]; simp
    simp at hmem
    subst hmem
    revert hr; decide
  unfold wordF
  rw [if_neg hne, h1, h2, vparse_some h rfl]
theorem innF_one {t : ByteArray} (hne : t ≠ ⟨#[]⟩) : innF [t] = (wordF t).map fun x => (x, true) := by
  unfold innF
  show stepW (some ((0, lastR), false)) t = _
  unfold stepW
  simp only [if_neg hne]
  cases hw : wordF t with
  | none => rfl
  | some x =>
    have := wordF_bounds hw
    simp only [Option.map_some, Option.some.injEq, Prod.mk.injEq, and_true]
    obtain ⟨x1, x2⟩ := x
    simp only [Prod.mk.injEq] at this ⊢
    omega
/-- a text of one word -/
theorem parse_one {t : ByteArray} {x : Rk} (hs : t.size ≤ 4096) (hne : t ≠ ⟨#[]⟩) (h1 : (124 : UInt8) ∉ t.data.toList) (h2 : (32 : UInt8) ∉ t.data.toList) (hw : wordF t = some x) : parseS t = some (if x.1 ≤ x.2 then [x] else []) := by
  unfold parseS
  rw [if_neg (by omega), spl_no (sep := barsB) (c := 124) (t := [124]) rfl h1]
  unfold altsF
  show stepA (some []) t = _
  unfold stepA
  rw [spl_no (sep := blankB) (c := 32) (t := []) rfl h2, innF_one hne, hw]
  simp only [Option.map_some, Bool.true_eq_false, if_false, List.nil_append]
  split <;> rfl
theorem nochar {g : ByteArray} {v : Ver} {c : UInt8} (h : v.ok = true) (hg : c ∉ g.data.toList) (hc : ¬ VCh c) : c ∉ (g ++ v.txt).data.toList := by
  have hl : (g ++ v.txt).data.toList = g.data.toList ++ v.txt.data.toList := by simp [ByteArray.data_append]
  rw [hl, List.mem_append]
  rintro (e | e)
  · exact hg e
  · exact hc (txt_chars h c e)
theorem txt_ne {g : ByteArray} {v : Ver} (h : v.ok = true) : g ++ v.txt ≠ ⟨#[]⟩ := fun e => by
  have hl : (g ++ v.txt).data.toList = g.data.toList ++ v.txt.data.toList := by simp [ByteArray.data_append]
  obtain ⟨d, r, hd, _⟩ := txt_cons h
  rw [e, hd] at hl
  simp at hl
theorem no_bar : ¬ VCh 124 := by unfold VCh; decide
theorem no_blank : ¬ VCh 32 := by unfold VCh; decide
/-- a sign and a version are read -/
theorem parse_sign {g : ByteArray} {v : Ver} {x : Rk} (h : v.ok = true) (hg : ∀ c ∈ g.data.toList, signsL.contains c = true) (hs : g.size ≤ 100) (hx : signRk g.data.toList v = some x) : parseS (g ++ v.txt) = some (if x.1 ≤ x.2 then [x] else []) := by
  have hno : ∀ c : UInt8, signsL.contains c = false → c ∉ g.data.toList := fun c hc hm => by rw [hg c hm] at hc; cases hc
  refine parse_one ?_ (txt_ne h) (nochar h (hno 124 (by decide)) no_bar) (nochar h (hno 32 (by decide)) no_blank) ((word_sign h hg).trans hx)
  rw [ByteArray.size_append]
  have : v.txt.size ≤ 11 := verText_le _ _ _
  omega
theorem canon_one {x : Rk} (h0 : 0 ≤ x.1) (h1 : x.1 ≤ x.2) : canon (Has [x]) = [x] := canon_self ⟨h0, h1, trivial⟩
theorem canon_none : canon (Has []) = [] := canon_self trivial
theorem known_text : parseQ ⟨#[94, 49, 46, 50, 46, 51]⟩ = ([⟨⟨1, 2, 3⟩, ⟨1, 999, 999⟩⟩], 0) := by
  have h : parseS ((⟨#[94]⟩ : ByteArray) ++ Ver.txt ⟨1, 2, 3⟩) = _ := parse_sign (g := ⟨#[94]⟩) (v := ⟨1, 2, 3⟩) (x := (1002003, 1999999)) rfl (by decide) (by decide) (by decide)
  have e : ((⟨#[94]⟩ : ByteArray) ++ Ver.txt ⟨1, 2, 3⟩) = ⟨#[94, 49, 46, 50, 46, 51]⟩ := by decide +kernel
  rw [e] at h
  unfold parseQ
  rw [h]
  simp only
  rw [if_pos (by decide), canon_one (by decide) (by decide)]
  rfl
end Go.Proofs.YtghihopmiagcpaaGreatDoor
