/-
  halyardref03.begins, from, word: a word of a range read as the document does, walked.
-/
import Derived.Test.YtghihopmiagcpaaGreatDoorRefWP
import Derived.Test.YtghihopmiagcpaaGreatDoorRefV
import Derived.Test.YtghihopmiagcpaaGreatDoorSpanQ
import Derived.Test.YtghihopmiagcpaaGreatDoorReadP
set_option autoImplicit false
set_option relaxedAutoImplicit false
set_option linter.unusedVariables false
set_option linter.unusedSimpArgs false
namespace Go.Proofs.YtghihopmiagcpaaGreatDoor
open Go.Rows Go.RowKit Go.Shelf Go.Sort

theorem begins_eq {s t : ByteArray} : (s.extract 0 t.size = t) ↔ t.data.toList <+: s.data.toList := by
  constructor
  · intro h
    have e : (s.extract 0 t.size).data.toList = t.data.toList := by rw [h]
    rw [Lib.extract_from_zero] at e
    rw [← e]
    exact List.take_prefix _ _
  · intro h
    apply bytes_ext
    rw [Lib.extract_from_zero, size_data t]
    exact (List.prefix_iff_eq_take.1 h).symm
set_option maxRecDepth 100000 in
theorem begins_any (s t : ByteArray) (w : World) (hs : s.size ≤ 1000000) (ht : t.size ≤ 1000000) :
    Calls Tryz.prog 70 #[.string s, .string t] w fun e w' => e = .returned (.bool (t.data.toList.isPrefixOf s.data.toList)) ∧ Below w.heap.size w w' := by
  have hL := size_data s
  have hT := size_data t
  obtain ⟨p, hp⟩ : ∃ p, p = t.data.toList.isPrefixOf s.data.toList := ⟨_, rfl⟩
  rw [← hp]
  have HP := Lib.hid hp
  clear hp
  by_cases hle : t.size ≤ s.size
  · have hI : (t.size : Int) ≤ (s.size : Int) := by omega
    have hD : decide ((t.size : Int) ≤ (s.size : Int)) = true := decide_eq_true hI
    by_cases he : s.extract 0 t.size = t
    · have hb : ((s.extract 0 t.size).toList == t.toList) = true := by rw [he]; simp
      have Hp : Hid (p = true) := HP.out.trans (List.isPrefixOf_iff_prefix.2 (begins_eq.1 he))
      clear he HP hL hT
      go_enter Tryz.func70, Tryz.ntmps70
      go_wp2_with fail
      go_ret
      exact ⟨by rw [Hp.out]; rfl, Below.refl _ _⟩
    · have hb : ((s.extract 0 t.size).toList == t.toList) = false := by
        rw [beq_eq_false_iff_ne]; intro e; exact he (bytes_ext (by rw [Go.ByteArray.toList_eq, Go.ByteArray.toList_eq] at e; exact e))
      have Hp : Hid (p = false) := by
        unfold Hid; rw [HP.out]
        cases h : t.data.toList.isPrefixOf s.data.toList with
        | false => rfl
        | true => exact absurd (begins_eq.2 (List.isPrefixOf_iff_prefix.1 h)) he
      clear he HP hL hT
      go_enter Tryz.func70, Tryz.ntmps70
      go_wp2_with fail
      go_ret
      exact ⟨by rw [Hp.out]; rfl, Below.refl _ _⟩
  · have hI : ¬ (t.size : Int) ≤ (s.size : Int) := by omega
    have hD : decide ((t.size : Int) ≤ (s.size : Int)) = false := decide_eq_false hI
    have hD2 : decide (t.size ≤ s.size) = false := decide_eq_false hle
    have Hp : Hid (p = false) := by
      unfold Hid; rw [HP.out]
      cases h : t.data.toList.isPrefixOf s.data.toList with
      | false => rfl
      | true => have := (List.isPrefixOf_iff_prefix.1 h).length_le; omega
    clear hL hT HP
    go_enter Tryz.func70, Tryz.ntmps70
    go_wp2_with fail
    go_ret
    exact ⟨by rw [Hp.out]; rfl, Below.refl _ _⟩

/-- the spans of what a word tells -/
noncomputable def wsp : Option Rk → List Spn
  | none => []
  | some x => (runL x).map spnAt
theorem refFrom_any (lo hi : Int) (hlo : 0 ≤ lo) (hhi : hi ≤ 999999999) (w : World) :
    Calls Tryz.prog 72 #[.int .i64 lo, .int .i64 hi] w fun e w' => ∃ v, e = .returned v ∧ SlV rSpn w' (fun b => w.heap.size ≤ b) ((runL (lo, hi)).map spnAt) v ∧ Below w.heap.size w w' := by
  by_cases h : lo ≤ hi
  · have hI : ¬ hi < lo := by omega
    have Hr : Hid ((runL (lo, hi)).map spnAt = [⟨verAt lo, verAt hi⟩]) := by unfold Hid; rw [runL_yes h]; rfl
    have H1 := Lib.hid (fun W => refAt03_any lo hlo (by omega) W)
    have H2 := Lib.hid (fun W => refAt03_any hi (by omega) hhi W)
    have Hi1 := Lib.hid (verAt_i64 hlo (by omega : lo ≤ 999999999))
    have Hi2 := Lib.hid (verAt_i64 (by omega : 0 ≤ hi) hhi)
    have Hv1 : Hid (verAt lo = ⟨lo / 1000 / 1000, lo / 1000 % 1000, lo % 1000⟩) := rfl
    have Hv2 : Hid (verAt hi = ⟨hi / 1000 / 1000, hi / 1000 % 1000, hi % 1000⟩) := rfl
    generalize (runL (lo, hi)).map spnAt = R at *
    generalize verAt lo = u1 at *
    generalize verAt hi = u2 at *
    generalize lo / 1000 / 1000 = a1 at *
    generalize lo / 1000 % 1000 = a2 at *
    generalize lo % 1000 = a3 at *
    generalize hi / 1000 / 1000 = b1 at *
    generalize hi / 1000 % 1000 = b2 at *
    generalize hi % 1000 = b3 at *
    clear hlo hhi h
    go_enter Tryz.func72, Tryz.ntmps72
    go_wp2_with fail
    refine (H1.out _).mono ?_
    rintro e w1 ⟨rfl, hb1⟩
    have HB1 := Lib.hid hb1
    clear hb1
    go_wp2_with fail
    refine (H2.out _).mono ?_
    rintro e w2 ⟨rfl, hb2⟩
    have HB2 := Lib.hid (bot HB1.out hb2)
    have hz := HB2.out.size
    clear hb2
    go_wp2_with fail
    go_ret
    refine ⟨_, rfl, ?_, bal HB2.out _⟩
    rw [Hr.out]
    exact SlV.of_block (g := w2.heap.size) (cs := #[.int .i64 a1, .int .i64 a2, .int .i64 a3, .int .i64 b1, .int .i64 b2, .int .i64 b3]) (heap_alloc_new w2 _) (Elems.one_ (r := rSpn) (x := ⟨u1, u2⟩) (cs := [.int .i64 a1, .int .i64 a2, .int .i64 a3, .int .i64 b1, .int .i64 b2, .int .i64 b3]) (by rw [Hv1.out, Hv2.out]; exact ⟨rfl, Hi1.out.1, Hi1.out.2.1, Hi1.out.2.2, Hi2.out.1, Hi2.out.2.1, Hi2.out.2.2⟩)) hz rfl (by simp) (by unfold maxLen; decide)
  · have hI : hi < lo := by omega
    have Hr : Hid ((runL (lo, hi)).map spnAt = []) := by unfold Hid; rw [runL_no h]; rfl
    generalize (runL (lo, hi)).map spnAt = R at *
    clear hlo hhi h
    go_enter Tryz.func72, Tryz.ntmps72
    go_wp2_with fail
    go_ret
    exact ⟨_, rfl, by rw [Hr.out]; exact SlV.nil_ _ _ _, Below.refl _ _⟩

/-- the document's signs, in the order in which they are tried -/
def sgB : List ByteArray := [⟨#[60, 61]⟩, ⟨#[62, 61]⟩, ⟨#[60]⟩, ⟨#[62]⟩, ⟨#[61]⟩, ⟨#[94]⟩, ⟨#[126]⟩]
theorem sgB_le (k : Nat) (h : k < sgB.length) : sgB[k].size ≤ 1000000 := by
  have hm := List.getElem_mem h
  generalize sgB[k] = x at *
  unfold sgB at hm
  simp only [List.mem_cons, List.not_mem_nil, or_false] at hm
  rcases hm with rfl | rfl | rfl | rfl | rfl | rfl | rfl <;> decide
theorem sgB_sgs : sgB.map (·.data.toList) = sgs := rfl
/-- the sign found among the first ones -/
def sgUpto (s : List UInt8) (k : Nat) : List UInt8 := ((sgs.take k).find? fun g => g.isPrefixOf s).getD []
theorem sgUpto_all (s : List UInt8) : sgUpto s 7 = refSign s := rfl
theorem sgUpto_next {s : List UInt8} {k : Nat} (hk : k < sgB.length) (h : sgUpto s k = []) : sgUpto s (k + 1) = if (sgB[k].data.toList).isPrefixOf s then sgB[k].data.toList else [] := by
  have hk' : k < sgs.length := hk
  have e : sgs[k] = sgB[k].data.toList := by
    show (sgB.map (·.data.toList))[k]'(by rw [List.length_map]; exact hk) = _
    rw [List.getElem_map]
    rfl
  have hn : (sgs.take k).find? (fun g => g.isPrefixOf s) = none := by
    cases hf : (sgs.take k).find? (fun g => g.isPrefixOf s) with
    | none => rfl
    | some g =>
      exfalso
      unfold sgUpto at h
      rw [hf] at h
      have hm := List.mem_of_mem_take (List.mem_of_find?_eq_some hf)
      have hg : g = [] := h
      subst hg
      exact absurd hm (by decide)
  unfold sgUpto
  rw [List.take_succ_eq_append_getElem hk', List.find?_append, hn, Option.none_or, e]
  generalize sgB[k].data.toList = c at *
  by_cases hp : c.isPrefixOf s = true
  · rw [if_pos hp]; simp [hp]
  · rw [if_neg hp]; simp [hp]
theorem sgUpto_keep {s : List UInt8} {k : Nat} (h : sgUpto s k ≠ []) : refSign s = sgUpto s k := by
  unfold sgUpto at h ⊢
  cases hf : (sgs.take k).find? (fun g => g.isPrefixOf s) with
  | none => rw [hf] at h; exact absurd rfl h
  | some g =>
    unfold refSign
    have : sgs = sgs.take k ++ sgs.drop k := (List.take_append_drop k sgs).symm
    rw [this, List.find?_append, hf]
    rfl
/-- how a sign's bytes compare, as the document asks -/
def Cmp2 (g : List UInt8) (r : Nat) : Prop :=
  (g == [60, 61]) = (r == 0) ∧ (g == [62, 61]) = (r == 1) ∧ (g == [60]) = (r == 2) ∧ (g == [62]) = (r == 3) ∧ (g == [126]) = (r == 4) ∧ (g == [94]) = (r == 5)
theorem ref_cases (s : List UInt8) (v : Ver) :
    (Cmp2 (refSign s) 0 ∧ signRk (refSign s) v = some (0, v.rank)) ∨ (Cmp2 (refSign s) 1 ∧ signRk (refSign s) v = some (v.rank, lastR)) ∨ (Cmp2 (refSign s) 2 ∧ signRk (refSign s) v = some (0, v.rank - 1)) ∨ (Cmp2 (refSign s) 3 ∧ signRk (refSign s) v = some (v.rank + 1, lastR)) ∨
    (Cmp2 (refSign s) 4 ∧ signRk (refSign s) v = some (v.rank, v.rank - v.patch + 999)) ∨ (Cmp2 (refSign s) 6 ∧ signRk (refSign s) v = some (v.rank, v.rank)) ∨
    (Cmp2 (refSign s) 5 ∧ signRk (refSign s) v = (if 0 < v.major then some (v.rank, v.rank - v.patch + 999 + (999 - v.minor) * 1000) else if 0 < v.minor then some (v.rank, v.rank - v.patch + 999) else some (v.rank, v.rank))) := by
  rcases refSign_cases s with h | h | h | h | h | h | h | h <;> rw [h]
  · exact .inl ⟨by unfold Cmp2; decide, rfl⟩
  · exact .inr (.inl ⟨by unfold Cmp2; decide, rfl⟩)
  · exact .inr (.inr (.inl ⟨by unfold Cmp2; decide, rfl⟩))
  · exact .inr (.inr (.inr (.inl ⟨by unfold Cmp2; decide, rfl⟩)))
  · exact .inr (.inr (.inr (.inr (.inr (.inl ⟨by unfold Cmp2; decide, rfl⟩)))))
  · exact .inr (.inr (.inr (.inr (.inr (.inr ⟨by unfold Cmp2; decide, rfl⟩)))))
  · exact .inr (.inr (.inr (.inr (.inl ⟨by unfold Cmp2; decide, rfl⟩))))
  · exact .inr (.inr (.inr (.inr (.inr (.inl ⟨by unfold Cmp2; decide, rfl⟩)))))

set_option maxHeartbeats 4000000 in
set_option maxRecDepth 100000 in
theorem refWord_any (s : ByteArray) (w : World) (hs : s.size ≤ 1000000) :
    Calls Tryz.prog 47 #[.string s] w fun e w' => ∃ v, e = .returned (.tuple #[v, .bool (wordF s).isSome]) ∧ SlV rSpn w' (fun b => w.heap.size ≤ b) (wsp (wordF s)) v ∧ Below w.heap.size w w' := by
  by_cases hst : s = ⟨#[42]⟩
  · have hb : (s.toList == [42]) = true := by rw [hst, Go.ByteArray.toList_eq]; rfl
    have Hw : Hid (wordF s = some (0, lastR)) := by unfold Hid wordF; rw [if_pos hst]
    have Ha := Lib.hid (fun W => refAll_any W)
    clear hst
    go_enter Tryz.func47, Tryz.ntmps47
    go_wp2_with fail
    refine (Ha.out _).mono ?_
    rintro e w1 ⟨v, rfl, hv, hb1⟩
    go_wp2_with fail
    go_ret2
    rw [Hw.out]
    exact ⟨v, rfl, hv, hb1⟩
  have hb : (s.toList == [42]) = false := by
    rw [beq_eq_false_iff_ne]; intro e; exact hst (bytes_ext (by rw [Go.ByteArray.toList_eq] at e; exact e))
  have hwf : wordF s = match vparse (mkB (s.data.toList.drop (refSign s.data.toList).length)) with | none => none | some v => signRk (refSign s.data.toList) v := by
    rw [← refWord_word]; unfold refWord; rw [if_neg hst]
    cases vparse (mkB (s.data.toList.drop (refSign s.data.toList).length)) <;> rfl
  have Hwf := Lib.hid hwf
  have HL := Lib.hid (size_data s)
  clear hst hwf
  go_enter Tryz.func47, Tryz.ntmps47
  go_wp2_with fail
  obtain ⟨w1, hw1⟩ : ∃ w1, w1 = w.alloc (.cells #[.string ⟨#[60, 61]⟩, .string ⟨#[62, 61]⟩, .string ⟨#[60]⟩, .string ⟨#[62]⟩, .string ⟨#[61]⟩, .string ⟨#[94]⟩, .string ⟨#[126]⟩] 9) := ⟨_, rfl⟩
  have HB1 : Hid (Below w.heap.size w w1) := by unfold Hid; rw [hw1]; exact bal (Below.refl _ _) _
  have HG1 : Hid (SlV rStr w1 (fun b => b < w1.heap.size) sgB (.slice (some ⟨w.heap.size, 0, none⟩) 7 7)) := by
    refine SlV.of_block (g := w.heap.size) (cs := #[.string ⟨#[60, 61]⟩, .string ⟨#[62, 61]⟩, .string ⟨#[60]⟩, .string ⟨#[62]⟩, .string ⟨#[61]⟩, .string ⟨#[94]⟩, .string ⟨#[126]⟩]) (by rw [hw1]; exact heap_alloc_new w _) ?_ (by rw [hw1]; simp) rfl (Nat.le_refl 7) (by unfold maxLen; decide)
    exact elemsS (l := sgB) (fun x hx => by
      unfold sgB at hx
      simp only [List.mem_cons, List.not_mem_nil, or_false] at hx
      rcases hx with rfl | rfl | rfl | rfl | rfl | rfl | rfl <;> (unfold maxLen; decide))
  rw [← hw1]
  clear hw1
  have Hbg : Hid (∀ (k : Nat) (h : k < sgB.length) W, Calls Tryz.prog 70 #[.string s, .string sgB[k]] W fun e w' => e = .returned (.bool ((sgB[k].data.toList).isPrefixOf s.data.toList)) ∧ Below W.heap.size W w') := fun k h W =>
    begins_any s _ W hs (sgB_le k h)
  go_loopw [5, 6] (fun v i wr => ∃ (k : Nat) (g : ByteArray), k ≤ 7 ∧ i = .int .i64 k ∧ v = .string g ∧ Hid (g.data.toList = sgUpto s.data.toList k) ∧ Hid (Below w1.heap.size w1 wr)) (fun _ i _ => 7 - (intOf i).toNat)
  case atStart => exact ⟨0, ⟨#[]⟩, Nat.zero_le _, rfl, rfl, rfl, Below.refl _ _⟩
  case round =>
    obtain ⟨k, g, hk, rfl, rfl, Hg, HB⟩ := hrel
    by_cases hgo : k < 7 ∧ g = ⟨#[]⟩
    · obtain ⟨hlt, rfl⟩ := hgo
      have hkI : (k : Int) < 7 := by omega
      have hk0 : (0 : Int) ≤ (k : Int) := by omega
      have hkx : k < sgB.length := hlt
      have hge : ((⟨#[]⟩ : ByteArray).toList == []) = true := by rw [Go.ByteArray.toList_eq]; rfl
      have hlw := HG1.out.below HB.out (fun b hb => hb)
      obtain ⟨pb, po, cs, he, hpS, _, ⟨rfl, _⟩, hcell⟩ := hlw.elem (List.getElem?_eq_getElem hkx)
      simp only [Option.some.injEq, Addr.mk.injEq] at he
      obtain ⟨rfl, rfl, _⟩ := he
      have c0 := hcell 0 _ rfl
      simp only [rStr, Nat.add_zero, Nat.mul_one, Nat.zero_add] at c0
      clear hcell
      have hup : sgUpto s.data.toList k = [] := Hg.out.symm
      have Hnx := Lib.hid (sgUpto_next hkx hup)
      have Hb := Lib.hid (Hbg.out k hkx)
      clear hlw hup Hg
      generalize sgB[k] = x at *
      generalize hp : x.data.toList.isPrefixOf s.data.toList = p at *
      have d0 := below_cell (B := wr.heap.size) (Below.refl _ _) c0 (cell_lt c0)
      go_wp2_with fail
      refine (Hb.out _).mono ?_
      rintro e w3 ⟨rfl, hb3⟩
      have HB3 := Lib.hid (HB.out.trans (hb3.mono HB.out.size))
      have c3 := below_cell hb3 c0 (cell_lt c0)
      clear hb3 c0 d0 HB
      cases p with
      | true =>
        rw [if_pos rfl] at Hnx
        go_wp2_with fail
        go_roundw
        case rel => exact ⟨k + 1, x, by omega, by go_num, rfl, Hnx.out.symm, HB3.out⟩
        case measure => simp [intOf]; omega
      | false =>
        rw [if_neg (by decide)] at Hnx
        go_wp2_with fail
        go_roundw
        case rel => exact ⟨k + 1, ⟨#[]⟩, by omega, by go_num, rfl, Hnx.out.symm, HB3.out⟩
        case measure => simp [intOf]; omega
    · have hex : refSign s.data.toList = g.data.toList := by
        by_cases he : g = ⟨#[]⟩
        · have hk7 : k = 7 := Classical.byContradiction fun hn => hgo ⟨by omega, he⟩
          rw [Hg.out, hk7]; rfl
        · rw [Hg.out]; exact sgUpto_keep (fun e => he (bytes_ext (by rw [Hg.out, e])))
      have hgz : g.size ≤ s.size := by
        rw [size_data g, size_data s, ← hex]; exact (refSign_prefix _).length_le
      have hcs : k = 7 ∨ (k < 7 ∧ (g.toList == []) = false) := by
        by_cases hk7 : k = 7
        · exact .inl hk7
        · refine .inr ⟨by omega, ?_⟩
          rw [beq_eq_false_iff_ne]
          intro e
          exact hgo ⟨by omega, bytes_ext (by rw [Go.ByteArray.toList_eq] at e; exact e)⟩
      have hdr : mkB (s.data.toList.drop g.size) = s.extract g.size s.size := bytes_ext (by rw [Lib.extract_to_end]; rfl)
      have hwf := Hwf.out
      rw [hex, ← size_data g, hdr] at hwf
      have hez : (s.extract g.size s.size).size ≤ 1000000 := by rw [ByteArray.size_extract]; omega
      have Hp : Hid (∀ W, Calls Tryz.prog 71 #[.string (s.extract g.size s.size)] W fun e w' => e = .returned (.tuple #[verV ((vparse (s.extract g.size s.size)).getD ⟨0, 0, 0⟩), .bool (vparse (s.extract g.size s.size)).isSome]) ∧ Below W.heap.size W w') := fun W => refVParse_any _ W hez
      have hus : ∃ u : Ver, u = (vparse (s.extract g.size s.size)).getD ⟨0, 0, 0⟩ ∧ u.ok = true := by
        cases h : vparse (s.extract g.size s.size) with
        | none => exact ⟨_, rfl, rfl⟩
        | some v => exact ⟨_, rfl, (vparse_is h).1⟩
      obtain ⟨u, hu, huok⟩ := hus
      have Hr : Hid (∀ W, Calls Tryz.prog 34 #[.agg #[.int .i64 u.major, .int .i64 u.minor, .int .i64 u.patch]] W fun e w' => e = .returned (.int .i64 u.rank) ∧ Below W.heap.size W w') := fun W => refRank_any u.major u.minor u.patch W
      rw [← hu] at Hp
      have HwN : Hid (vparse (s.extract g.size s.size) = none → wordF s = none) := fun h2 => by rw [hwf, h2]
      have HwS : Hid ((vparse (s.extract g.size s.size)).isSome = true → wordF s = signRk g.data.toList u) := fun h2 => by
        obtain ⟨v, hv⟩ := Option.isSome_iff_exists.1 h2
        rw [hv] at hu
        rw [hwf, hv, hu]; rfl
      have Hw0 : Hid ((wordF s).isSome = true ∨ wordF s = none) := by
        cases wordF s with
        | none => exact .inr rfl
        | some x => exact .inl rfl
      obtain ⟨⟨a0, a1⟩, ⟨b0, b1⟩, c0, c1⟩ := verB_iff.1 (show verB u.major u.minor u.patch = true from huok)
      have hrk : 0 ≤ u.rank ∧ u.rank ≤ 999999999 := by rw [u.rank_ok huok]; exact rank_bounds huok
      have hrv : u.rank = (u.major * 1000 + u.minor) * 1000 + u.patch := u.rank_ok huok
      have Hsg := Lib.hid (ref_cases s.data.toList u)
      rw [hex] at Hsg
      have Hfr : Hid (∀ lo hi W, 0 ≤ lo → hi ≤ 999999999 → Calls Tryz.prog 72 #[.int .i64 lo, .int .i64 hi] W fun e w' => ∃ v, e = .returned v ∧ SlV rSpn w' (fun b => W.heap.size ≤ b) ((runL (lo, hi)).map spnAt) v ∧ Below W.heap.size W w') := fun lo hi W h0 h1 => refFrom_any lo hi h0 h1 W
      have Hnil : Hid ((vparse (s.extract g.size s.size)).isSome = false → vparse (s.extract g.size s.size) = none) := fun h => by simpa using h
      have hgz' : (g.size : Int) ≤ (s.size : Int) := by omega
      clear hu huok hwf Hwf hex Hg hgo hdr hez Hbg HL
      generalize (vparse (s.extract g.size s.size)).isSome = ok at *
      generalize hse : s.extract g.size s.size = sx at *
      obtain ⟨M, m, p⟩ := u
      simp only at a0 a1 b0 b1 c0 c1 hrk hrv Hsg Hr Hp HwS
      obtain ⟨n, hn⟩ : ∃ n, n = Ver.rank ⟨M, m, p⟩ := ⟨_, rfl⟩
      rw [← hn] at hrk hrv Hsg Hr
      clear hn
      unfold verV at Hp
      simp only at Hp
      obtain ⟨q, hq⟩ : ∃ q, q = m * 1000 + p := ⟨_, rfl⟩
      have hm1 : n % 1000 = p := by omega
      have hm2 : n % 1000000 = q := by omega
      have e1 : IntKind.i64.wrap (n - p) = n - p := IntWalk.i64_in _ ⟨by omega, by omega⟩
      have e2 : IntKind.i64.wrap (n - p + 999) = n - p + 999 := IntWalk.i64_in _ ⟨by omega, by omega⟩
      have e3 : IntKind.i64.wrap (n - q) = n - q := IntWalk.i64_in _ ⟨by omega, by omega⟩
      have e4 : IntKind.i64.wrap (n - q + 999999) = n - q + 999999 := IntWalk.i64_in _ ⟨by omega, by omega⟩
      have e6 : IntKind.i64.wrap (n - 1) = n - 1 := IntWalk.i64_in _ ⟨by omega, by omega⟩
      have e7 : IntKind.i64.wrap (n + 1) = n + 1 := IntWalk.i64_in _ ⟨by omega, by omega⟩
      have hmj : n - p + 999 + (999 - m) * 1000 = n - q + 999999 := by omega
      have hr1 : n - p + 999 ≤ 999999999 := by omega
      have hr2 : n - q + 999999 ≤ 999999999 := by omega
      have HBw : Hid (Below w.heap.size w wr) := HB1.out.trans (HB.out.mono HB1.out.size)
      obtain ⟨hrk0, hrk1⟩ := hrk
      simp only [hmj] at Hsg
      clear HB HB1 HG1 hrv hq a1 b1 c0 c1 hmj
      cases ok with
      | false =>
        have Hw : Hid (wordF s = none) := HwN.out (Hnil.out rfl)
        clear HwN HwS Hnil Hsg
        rcases hcs with rfl | ⟨hk7, hge⟩
        all_goals
          go_wp2_with fail
          refine (Hp.out _).mono ?_
          rintro e w2 ⟨rfl, hb2⟩
          have HB2 := Lib.hid (bot HBw.out hb2)
          clear hb2
          go_wp2_with fail
          go_ret2
          rw [Hw.out]
          exact ⟨_, rfl, SlV.nil_ _ _ _, bal HB2.out _⟩
      | true =>
        have Hw := Lib.hid (HwS.out rfl)
        clear HwN HwS Hnil
        rcases hcs with rfl | ⟨hk7, hge⟩
        all_goals
          go_wp2_with fail
          refine (Hp.out _).mono ?_
          rintro e w2 ⟨rfl, hb2⟩
          have HB2 := Lib.hid (bot HBw.out hb2)
          clear hb2
          go_wp2_with fail
          refine (Hr.out _).mono ?_
          rintro e w4 ⟨rfl, hb4⟩
          have HB4 := Lib.hid (bot HB2.out (bnew hb4))
          have hn4 : w4.heap[w2.heap.size]? = some (.cells #[.int .i64 M, .int .i64 m, .int .i64 p] 24 (0, 0)) := (hb4.block _ (by simp)).trans (heap_alloc_new _ _)
          obtain ⟨⟨v0, v1, v2⟩, _⟩ := row3 hn4
          have hz4 := HB4.out.size
          clear hb4 hn4 HB2
          have htl : ∀ l : List UInt8, (g.toList == l) = (g.data.toList == l) := fun l => by rw [Go.ByteArray.toList_eq]
          rcases Hsg.out with ⟨hc, hr⟩ | ⟨hc, hr⟩ | ⟨hc, hr⟩ | ⟨hc, hr⟩ | ⟨hc, hr⟩ | ⟨hc, hr⟩ | ⟨hc, hr⟩
          rotate_left 6
          · rw [hr] at Hw
            clear hr
            unfold Cmp2 at hc
            simp only [← htl] at hc
            simp only [Nat.reduceBEq] at hc
            obtain ⟨g0, g1, g2, g3, g4, g5⟩ := hc
            clear htl Hsg
            by_cases hM : 0 < M
            · rw [if_pos hM] at Hw
              go_wp2_with fail
              refine (Hfr.out _ _ _ (by omega) (by omega)).mono ?_
              rintro e w5 ⟨v, rfl, hv, hb5⟩
              go_wp2_with fail
              go_ret2
              rw [Hw.out]
              exact ⟨v, rfl, hv.more fun b hb _ => Nat.le_trans hz4 hb, bot HB4.out hb5⟩
            · rw [if_neg hM] at Hw
              by_cases hm : 0 < m
              · rw [if_pos hm] at Hw
                go_wp2_with fail
                refine (Hfr.out _ _ _ (by omega) (by omega)).mono ?_
                rintro e w5 ⟨v, rfl, hv, hb5⟩
                go_wp2_with fail
                go_ret2
                rw [Hw.out]
                exact ⟨v, rfl, hv.more fun b hb _ => Nat.le_trans hz4 hb, bot HB4.out hb5⟩
              · rw [if_neg hm] at Hw
                go_wp2_with fail
                refine (Hfr.out _ _ _ (by omega) (by omega)).mono ?_
                rintro e w5 ⟨v, rfl, hv, hb5⟩
                go_wp2_with fail
                go_ret2
                rw [Hw.out]
                exact ⟨v, rfl, hv.more fun b hb _ => Nat.le_trans hz4 hb, bot HB4.out hb5⟩
          all_goals
            rw [hr] at Hw
            unfold Cmp2 at hc
            simp only [← htl] at hc
            simp only [Nat.reduceBEq] at hc
            obtain ⟨g0, g1, g2, g3, g4, g5⟩ := hc
            clear hr htl Hsg
            go_wp2_with fail
            refine (Hfr.out _ _ _ (by omega) (by omega)).mono ?_
            rintro e w5 ⟨v, rfl, hv, hb5⟩
            go_wp2_with fail
            go_ret2
            rw [Hw.out]
            exact ⟨v, rfl, hv.more fun b hb _ => Nat.le_trans hz4 hb, bot HB4.out hb5⟩
end Go.Proofs.YtghihopmiagcpaaGreatDoor
