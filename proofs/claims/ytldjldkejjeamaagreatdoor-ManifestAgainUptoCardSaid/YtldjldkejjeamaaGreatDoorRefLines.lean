/-
  halyardref04.isWord, split, line, Lines: a text as lines of words, walked.
  halyardref04.Lines, walked.
-/
import Derived.Test.YtldjldkejjeamaaGreatDoorKnowP
import Derived.Test.YtldjldkejjeamaaGreatDoorVParse
import Derived.Test.YtldjldkejjeamaaGreatDoorSpanR
set_option autoImplicit false
set_option relaxedAutoImplicit false
set_option linter.unusedVariables false
set_option linter.unusedSimpArgs false
namespace Go.Proofs.YtldjldkejjeamaaGreatDoor
open Go.Rows Go.RowKit Go.Shelf Go.Sort

/-- the bytes from a place to another one -/
def cutL (s : List UInt8) (b k : Nat) : List UInt8 := (s.take k).drop b
theorem cutL_self (s : List UInt8) (k : Nat) : cutL s k k = [] := by unfold cutL; rw [List.drop_eq_nil_of_le]; rw [List.length_take]; omega
theorem cutL_extract {s : ByteArray} {b k : Nat} (hk : k ≤ s.size) : s.extract b k = mkB (cutL s.data.toList b k) := by
  apply bytes_ext
  rw [mkB_data]
  unfold cutL
  rw [show (s.extract b k).data.toList = (s.data.toList.take k).drop b from by
    simp [ByteArray.data_extract, Array.toList_extract, List.extract_eq_take_drop, List.drop_take]]
theorem cutL_next {s : ByteArray} {b k : Nat} (hb : b ≤ k) (hk : k < s.size) : cutL s.data.toList b (k + 1) = cutL s.data.toList b k ++ [s[k]] := by
  have h' : k < s.data.toList.length := by rw [← size_data]; exact hk
  unfold cutL
  rw [List.take_succ_eq_append_getElem h', List.drop_append_of_le_length (by rw [List.length_take]; omega)]
  have e : s.data.toList[k] = s[k] := by
    have := byte_at s k hk
    rw [List.drop_eq_getElem_cons h'] at this
    exact (List.cons.inj this).1
  rw [e]
theorem cutL_end {s : ByteArray} {b : Nat} {k : Nat} (hb : b ≤ k) : cutL s.data.toList b k ++ s.data.toList.drop k = s.data.toList.drop b := by
  unfold cutL
  by_cases h : k ≤ s.data.toList.length
  · conv => rhs; rw [← List.take_append_drop k s.data.toList]
    rw [List.drop_append_of_le_length (by rw [List.length_take]; omega)]
  · rw [List.take_of_length_le (by omega), List.drop_eq_nil_of_le (by omega : s.data.toList.length ≤ k), List.append_nil]
theorem elt_strs : Elt Tryz.prog 61 1 24 := Elt.mk' (z := .slice none 0 0) (by kernel_rfl) rfl (by decide)

theorem isWord_any (s : ByteArray) (w : World) (hs : s.size ≤ 1000000) :
    Calls Tryz.prog 121 #[.string s] w fun e w' => e = .returned (.bool (wordOk s.data.toList)) ∧ Below w.heap.size w w' := by
  obtain ⟨R, hR⟩ : ∃ R, R = wordOk s.data.toList := ⟨_, rfl⟩
  rw [← hR]
  have Hno : Hid (∀ k, (h : k < s.size) → visB s[k] = false → R = false) := fun k h hv => by
    rw [hR]
    unfold wordOk
    have hm : s[k] ∈ s.data.toList := by
      have := byte_at s k h
      exact List.mem_of_mem_drop (by rw [this]; exact List.mem_cons_self)
    rw [List.all_eq_false.2 ⟨s[k], hm, by rw [hv]; decide⟩, Bool.and_false]
  have Hyes : Hid ((∀ k, (h : k < s.size) → visB s[k] = true) → R = (s.toList != [])) := fun h => by
    rw [hR]
    unfold wordOk
    have hall : s.data.toList.all visB = true := by
      rw [List.all_eq_true]
      intro c hc
      obtain ⟨k, hk, rfl⟩ := List.getElem_of_mem hc
      have hk' : k < s.size := by rw [size_data]; exact hk
      have e : s.data.toList[k] = s[k] := by
        have := byte_at s k hk'
        rw [List.drop_eq_getElem_cons hk] at this
        exact (List.cons.inj this).1
      rw [e]; exact h k hk'
    rw [hall, Bool.and_true, Go.ByteArray.toList_eq]
    cases s.data.toList <;> rfl
  clear hR
  go_enter Tryz.func121, Tryz.ntmps121
  go_wp2_with fail
  go_loopw [3] (fun i wr => ∃ k : Nat, k ≤ s.size ∧ i = .int .i64 k ∧ Hid (∀ j, (h : j < s.size) → j < k → visB s[j] = true) ∧ Hid (wr = w)) (fun i _ => s.size - (intOf i).toNat)
  case atStart => exact ⟨0, Nat.zero_le _, rfl, fun j h hj => absurd hj (Nat.not_lt_zero _), rfl⟩
  case round =>
    obtain ⟨k, hk, rfl, Hq, Hw⟩ := hrel
    have hww := Hw.out
    subst hww
    by_cases hlt : k < s.size
    · have hkI : (k : Int) < (s.size : Int) := by omega
      have hk0 : (0 : Int) ≤ (k : Int) := by omega
      have hvd : Hid (visB s[k] = (decide (33 ≤ s[k].toNat) && decide (s[k].toNat ≤ 126))) := rfl
      have hq2 : Hid (visB s[k] = true → ∀ j, (h : j < s.size) → j < k + 1 → visB s[j] = true) := fun hv j h hj => by
        by_cases e : j = k
        · subst e; exact hv
        · exact Hq.out j h (by omega)
      have Hn := Lib.hid (Hno.out k hlt)
      by_cases h1 : s[k].toNat < 33
      · have t1 : (s[k].toNat : Int) < 33 := by omega
        have t1d : decide ((s[k].toNat : Int) < 33) = true := decide_eq_true t1
        have He := Lib.hid (Hn.out (by rw [hvd.out, decide_eq_false (by omega), Bool.false_and]))
        clear hvd hq2 Hn Hq
        go_wp2_with fail
        go_ret
        exact ⟨by rw [He.out]; rfl, Below.refl _ _⟩
      · have t1 : ¬ (s[k].toNat : Int) < 33 := by omega
        have t1d : decide ((s[k].toNat : Int) < 33) = false := decide_eq_false t1
        by_cases h2 : 126 < s[k].toNat
        · have t2 : (126 : Int) < (s[k].toNat : Int) := by omega
          have He := Lib.hid (Hn.out (by rw [hvd.out, decide_eq_false (show ¬ s[k].toNat ≤ 126 by omega), Bool.and_false]))
          clear hvd hq2 Hn Hq
          go_wp2_with fail
          go_ret
          exact ⟨by rw [He.out]; rfl, Below.refl _ _⟩
        · have t2 : ¬ (126 : Int) < (s[k].toNat : Int) := by omega
          have Hq3 := Lib.hid (hq2.out (by rw [hvd.out, decide_eq_true (by omega), decide_eq_true (by omega)]; rfl))
          clear hvd hq2 Hn Hq
          go_wp2_with fail
          go_roundw
          case rel => exact ⟨k + 1, by omega, by go_num, Hq3, by first | exact rfl | exact trivial⟩
          case measure => simp [intOf]; omega
    · have hkI : ¬ (k : Int) < (s.size : Int) := by omega
      have He := Lib.hid (Hyes.out fun j h => Hq.out j h (by omega))
      clear Hyes Hno Hq
      by_cases he : s.toList = []
      · have t1 : (s.toList == []) = true := by rw [he]; rfl
        have t2 : (s.toList != []) = false := by rw [he]; rfl
        have He2 : Hid (R = false) := He.out.trans t2
        clear he He
        go_wp2_with fail
        go_ret
        exact ⟨by rw [He2.out]; rfl, Below.refl _ _⟩
      · have t1 : (s.toList == []) = false := by rw [beq_eq_false_iff_ne]; exact he
        have t2 : (s.toList != []) = true := by rw [bne_iff_ne]; exact he
        have He2 : Hid (R = true) := He.out.trans t2
        clear he He
        go_wp2_with fail
        go_ret
        exact ⟨by rw [He2.out]; rfl, Below.refl _ _⟩

set_option maxHeartbeats 4000000 in
set_option maxRecDepth 100000 in
theorem refSplit_any (s : ByteArray) (b : UInt8) (bi : Int) (hbi : bi = (b.toNat : Int)) (w : World) (hs : s.size ≤ 1000000) :
    Calls Tryz.prog 87 #[.string s, .int .u8 bi] w fun e w' => ∃ v, e = .returned v ∧ SlV rStr w' (fun b => w.heap.size ≤ b) ((splL b [] s.data.toList).map mkB) v ∧ Below w.heap.size w w' := by
  obtain ⟨F, hF⟩ : ∃ F, F = splL b [] s.data.toList := ⟨_, rfl⟩
  rw [← hF]
  have HF0 : Hid (F = [] ++ splL b (cutL s.data.toList 0 0) (s.data.toList.drop 0)) := by unfold Hid; rw [hF, cutL_self]; rfl
  clear hF
  have Hbi := Lib.hid hbi
  clear hbi
  go_enter Tryz.func87, Tryz.ntmps87
  go_wp2_with fail
  go_loopw [5, 6, 7] (fun v f i wr => ∃ (k bg : Nat) (done : List (List UInt8)), k ≤ s.size ∧ bg ≤ k ∧ i = .int .i64 k ∧ f = .int .i64 bg ∧ done.length ≤ k ∧ Hid (F = done ++ splL b (cutL s.data.toList bg k) (s.data.toList.drop k)) ∧ Hid (Own rStr wr w.heap.size 9 v (done.map mkB) (fun _ => False)) ∧ Hid (Below w.heap.size w wr)) (fun _ _ i _ => s.size - (intOf i).toNat)
  case atStart => exact ⟨0, 0, [], Nat.zero_le _, Nat.le_refl _, rfl, rfl, Nat.le_refl _, HF0, Own.nil_ _ _ _ _ (fun b hb => hb.elim), Below.refl _ _⟩
  case round =>
    clear HF0
    obtain ⟨k, bg, done, hk, hbk, rfl, rfl, hdl, Hm, Hown, HB⟩ := hrel
    have hzr := HB.out.size
    by_cases hlt : k < s.size
    · have hkI : (k : Int) < (s.size : Int) := by omega
      have hk0 : (0 : Int) ≤ (k : Int) := by omega
      have hd1 := byte_at s k hlt
      by_cases h1 : s[k] = b
      · have t1 : ((s[k].toNat : Int) == bi) = true := by rw [Hbi.out, h1]; simp
        have Hm2 : Hid (F = (done ++ [cutL s.data.toList bg k]) ++ splL b (cutL s.data.toList (k + 1) (k + 1)) (s.data.toList.drop (k + 1))) := by
          unfold Hid
          rw [Hm.out, hd1, h1, splL_hit, cutL_self, List.append_assoc]; rfl
        have Hx := Lib.hid (cutL_extract (s := s) (b := bg) (k := k) hk)
        have Hlen : Hid ((done.map mkB).length = done.length) := List.length_map _
        have Hmp : Hid ((done ++ [cutL s.data.toList bg k]).map mkB = done.map mkB ++ [s.extract bg k]) := by unfold Hid; rw [List.map_append, Hx.out]; rfl
        have Hle : Hid ((done ++ [cutL s.data.toList bg k]).length = done.length + 1) := by unfold Hid; simp
        have hxs : (s.extract bg k).size ≤ maxLen := by rw [ByteArray.size_extract]; unfold maxLen; omega
        generalize done ++ [cutL s.data.toList bg k] = done2 at *
        generalize hdm : done.map mkB = dm at *
        have Hxs := Lib.hid hxs
        clear Hm hd1 h1 Hx hxs hdm
        have hbI : (bg : Int) ≤ (k : Int) := by omega
        go_wp2_with (at_builtin; refine wpList_push (by rfl) _ _ _ (by rfl) elt_string Tryz.underlying61 (by rfl) (Hown.out.alloc _) ⟨wr.heap.size, 0, none⟩ 1 [.string (s.extract bg k)] (s.extract bg k) (by rfl) ⟨rfl, Hxs.out⟩ (news_of wr #[.string (s.extract bg k)] _) (by rw [Hlen.out]; unfold maxLen; omega) (by rw [Hlen.out]; omega) (by simp; omega) (wr.heap.size + 1) (by simp) ?_)
        intro g cap w5 hown5 hgrow5 hat5 hg5
        have HB5 := Lib.hid (bgrown (bal HB.out _) hgrow5 (Hown.out.alloc _) (Nat.le_refl _))
        have Hown5 := Lib.hid hown5
        clear hown5 hgrow5 Hown HB
        go_wp2_with fail
        go_roundw
        case rel => exact ⟨k + 1, k + 1, done2, by omega, Nat.le_refl _, by go_num, by go_num, by rw [Hle.out]; omega, Hm2, by unfold Hid; rw [Hmp.out]; exact Hown5.out, HB5⟩
        case measure => simp [intOf]; omega
      · have t1 : ((s[k].toNat : Int) == bi) = false := by
          rw [beq_eq_false_iff_ne, Hbi.out]; intro e; exact h1 (UInt8.toNat_inj.1 (by omega))
        have Hm2 : Hid (F = done ++ splL b (cutL s.data.toList bg (k + 1)) (s.data.toList.drop (k + 1))) := by
          unfold Hid
          rw [Hm.out, hd1, splL_next h1, cutL_next hbk hlt]
        clear Hm hd1 h1
        go_wp2_with fail
        go_roundw
        case rel => exact ⟨k + 1, bg, done, by omega, by omega, by go_num, rfl, by omega, Hm2, Hown, HB⟩
        case measure => simp [intOf]; omega
    · have hkI : ¬ (k : Int) < (s.size : Int) := by omega
      have Hfin : Hid (F = done ++ [s.data.toList.drop bg]) := by
        unfold Hid
        rw [Hm.out, ← cutL_end (s := s) hbk, List.drop_eq_nil_of_le (by rw [← size_data]; omega), splL, List.append_nil]
      have Hx : Hid (s.extract bg s.size = mkB (s.data.toList.drop bg)) := bytes_ext (by rw [Lib.extract_to_end]; rfl)
      have Hlen : Hid ((done.map mkB).length = done.length) := List.length_map _
      have Hmp : Hid (F.map mkB = done.map mkB ++ [s.extract bg s.size]) := by unfold Hid; rw [Hfin.out, List.map_append, Hx.out]; rfl
      have hxs : (s.extract bg s.size).size ≤ maxLen := by rw [ByteArray.size_extract]; unfold maxLen; omega
      have Hxs := Lib.hid hxs
      have hbI : (bg : Int) ≤ (s.size : Int) := by omega
      generalize hdm : done.map mkB = dm at *
      clear Hm Hfin Hx hxs hdm
      go_wp2_with (at_builtin; refine wpList_push (by rfl) _ _ _ (by rfl) elt_string Tryz.underlying61 (by rfl) (Hown.out.alloc _) ⟨wr.heap.size, 0, none⟩ 1 [.string (s.extract bg s.size)] (s.extract bg s.size) (by rfl) ⟨rfl, Hxs.out⟩ (news_of wr #[.string (s.extract bg s.size)] _) (by rw [Hlen.out]; unfold maxLen; omega) (by rw [Hlen.out]; omega) (by simp; omega) (wr.heap.size + 1) (by simp) ?_)
      intro g cap w5 hown5 hgrow5 hat5 hg5
      have HB5 := Lib.hid (bgrown (bal HB.out _) hgrow5 (Hown.out.alloc _) (Nat.le_refl _))
      have Hown5 := Lib.hid hown5
      clear hown5 hgrow5 Hown HB
      go_wp2_with fail
      go_ret
      exact ⟨_, rfl, by rw [Hmp.out]; exact Hown5.out.slvB, HB5.out⟩

/-- a line's words, and whether it is one -/
def lineV : Option (List (List UInt8)) → List ByteArray
  | none => []
  | some ws => ws.map mkB
def lineQ (s : List UInt8) : List ByteArray := lineV (lineF s)
set_option maxHeartbeats 2000000 in
set_option maxRecDepth 100000 in
theorem refLine_any (s : ByteArray) (w : World) (hs : s.size ≤ 1000000) :
    Calls Tryz.prog 88 #[.string s] w fun e w' => ∃ v, e = .returned (.tuple #[v, .bool (lineF s.data.toList).isSome]) ∧ SlV rStr w' (fun b => w.heap.size ≤ b) (lineQ s.data.toList) v ∧ Below w.heap.size w w' := by
  obtain ⟨L, hL⟩ : ∃ L, L = splL 32 [] s.data.toList := ⟨_, rfl⟩
  have HnN : Hid (∀ k, (h : k < L.length) → wordOk L[k] = false → lineF s.data.toList = none) := fun k h hv => by
    unfold lineF
    rw [← hL, if_neg]
    rw [List.all_eq_false.2 ⟨L[k], List.getElem_mem h, by rw [hv]; decide⟩]; decide
  have HyS : Hid ((∀ k, (h : k < L.length) → wordOk L[k] = true) → lineF s.data.toList = some L) := fun h => by
    unfold lineF
    rw [← hL, if_pos]
    rw [List.all_eq_true]
    intro x hx
    obtain ⟨k, hk, rfl⟩ := List.getElem_of_mem hx
    exact h k hk
  have HLl : Hid (L.length ≤ 1000001) := by have := splL_len 32 s.data.toList []; rw [← size_data] at this; unfold Hid; rw [hL]; omega
  have HLs : Hid (∀ x ∈ L.map mkB, x.size ≤ 1000000) := fun x hx => by
    obtain ⟨p, hp, rfl⟩ := List.mem_map.1 hx
    have h2 : mkB p ∈ spl s blankB := by rw [spl_blank]; exact List.mem_map.2 ⟨p, by rw [wrdL_splL, ← hL]; exact hp, rfl⟩
    have := splitB_le blankB _ _ _ h2
    omega
  have Hsp : Hid (∀ W, Calls Tryz.prog 87 #[.string s, .int .u8 32] W fun e w' => ∃ v, e = .returned v ∧ SlV rStr w' (fun b => W.heap.size ≤ b) (L.map mkB) v ∧ Below W.heap.size W w') := fun W => by rw [hL]; exact refSplit_any s 32 32 rfl W hs
  have HML : Hid ((L.map mkB).length = L.length) := List.length_map _
  have Hiw : Hid (∀ k, (h : k < L.length) → ∀ W, Calls Tryz.prog 121 #[.string (mkB L[k])] W fun e w' => e = .returned (.bool (wordOk L[k])) ∧ Below W.heap.size W w') := fun k h W => isWord_any (mkB L[k]) W (HLs.out _ (List.mem_map.2 ⟨_, List.getElem_mem h, rfl⟩))
  clear hL
  obtain ⟨FF, hFF⟩ : ∃ FF, FF = lineF s.data.toList := ⟨_, rfl⟩
  have HFQ : Hid (lineQ s.data.toList = lineV FF) := by unfold Hid; rw [hFF]; rfl
  rw [← hFF] at HnN HyS ⊢
  obtain ⟨LQ, hLQ⟩ : ∃ LQ, LQ = lineQ s.data.toList := ⟨_, rfl⟩
  rw [← hLQ] at HFQ ⊢
  clear hFF hLQ
  go_enter Tryz.func88, Tryz.ntmps88
  go_wp2_with fail
  refine (Hsp.out _).mono ?_
  rintro e w1 ⟨v1, rfl, hv1, hb1⟩
  obtain ⟨A1, c1, rfl, _, _⟩ := hv1.val
  rw [HML.out] at hv1 ⊢
  have HV1 := Lib.hid hv1
  have HB1 := Lib.hid hb1
  clear hv1 hb1 Hsp
  obtain ⟨ln, hln⟩ : ∃ ln, ln = L.length := ⟨_, rfl⟩
  rw [← hln] at HV1 ⊢
  have Hln := Lib.hid hln
  have hl5 : ln ≤ 1000001 := by have := HLl.out; omega
  clear hln
  go_wp2_with fail
  go_loopw [5] (fun i wr => ∃ k : Nat, k ≤ ln ∧ i = .int .i64 k ∧ Hid (∀ j, (h : j < L.length) → j < k → wordOk L[j] = true) ∧ Hid (Below w1.heap.size w1 wr)) (fun i _ => ln - (intOf i).toNat)
  case atStart => exact ⟨0, Nat.zero_le _, rfl, fun j h hj => absurd hj (Nat.not_lt_zero _), Below.refl _ _⟩
  case round =>
    obtain ⟨k, hk, rfl, Hq, HB⟩ := hrel
    have HBw := Lib.hid (bot HB1.out HB.out)
    by_cases hlt : k < ln
    case neg =>
      have hkI : ¬ (k : Int) < (ln : Int) := by omega
      have hF := HyS.out fun j h => Hq.out j h (by have := Hln.out; omega)
      subst hF
      have HV := Lib.hid (HV1.out.belowSize HB.out)
      clear HyS HnN Hq
      go_wp2_with fail
      go_ret2
      refine ⟨_, rfl, ?_, HBw.out⟩
      rw [HFQ.out]
      exact HV.out
    have hkI : (k : Int) < (ln : Int) := by omega
    have hk0 : (0 : Int) ≤ (k : Int) := by omega
    have hkL : k < L.length := by have := Hln.out; omega
    have hkx : k < (L.map mkB).length := by rw [HML.out]; exact hkL
    have hlw := HV1.out.belowSize HB.out
    obtain ⟨b, o, cs, rfl, hSb, hbl, hsp, hcell⟩ := hlw.elem (List.getElem?_eq_getElem hkx)
    obtain ⟨rfl, _⟩ := hsp
    have c0 := hcell 0 _ rfl
    simp only [rStr, Nat.add_zero, Nat.mul_one] at c0
    clear hcell
    simp only [List.getElem_map] at c0
    have Hi := Lib.hid (Hiw.out k hkL)
    have Hn := Lib.hid (HnN.out k hkL)
    have hq2 : Hid (wordOk L[k] = true → ∀ j, (h : j < L.length) → j < k + 1 → wordOk L[j] = true) := fun hv j h hj => by
      by_cases e : j = k
      · subst e; exact hv
      · exact Hq.out j h (by omega)
    clear hlw Hq
    generalize mkB L[k] = x at *
    generalize wordOk L[k] = p at *
    go_wp2_with fail
    refine (Hi.out _).mono ?_
    rintro e w3 ⟨rfl, hb3⟩
    have HB3 := Lib.hid (HB.out.trans (hb3.mono HB.out.size))
    clear hb3 c0
    cases p with
    | false =>
      have hF := Hn.out rfl
      subst hF
      clear Hn hq2 HyS HnN
      go_wp2_with fail
      go_ret2
      refine ⟨_, rfl, ?_, bot HB1.out HB3.out⟩
      rw [HFQ.out]
      exact SlV.nil_ _ _ _
    | true =>
      have Hq3 := Lib.hid (hq2.out rfl)
      clear Hn hq2
      go_wp2_with fail
      go_roundw
      case rel => exact ⟨k + 1, by omega, by go_num, Hq3, HB3⟩
      case measure => simp [intOf]; omega
end Go.Proofs.YtldjldkejjeamaaGreatDoor
set_option autoImplicit false
set_option relaxedAutoImplicit false
set_option linter.unusedVariables false
set_option linter.unusedSimpArgs false
namespace Go.Proofs.YtldjldkejjeamaaGreatDoor
open Go.Rows Go.RowKit Go.Shelf Go.Sort

/-- lines of words as the values show them -/
def wordsM (l : List (List (List UInt8))) : List (List ByteArray) := l.map fun w => w.map mkB
theorem linesG_take {L : List (List UInt8)} {k : Nat} {done : List (List (List UInt8))} {r : Option (List (List (List UInt8)))} (hk : k + 1 < L.length) (h : r = (linesG (L.drop k)).map (done ++ ·)) :
    r = match lineF (L[k]'(by omega)) with | none => none | some w => (linesG (L.drop (k + 1))).map ((done ++ [w]) ++ ·) := by
  have hne : L.drop (k + 1) ≠ [] := by
    intro e
    have := congrArg List.length e
    rw [List.length_drop] at this
    simp at this; omega
  rw [h, List.drop_eq_getElem_cons (show k < L.length by omega), linesG_cons hne]
  cases lineF L[k] with
  | none => rfl
  | some w =>
    simp only [Option.map_map]
    congr 1
    funext x
    simp
theorem linesG_end {L : List (List UInt8)} {k : Nat} (hk : k + 1 = L.length) : linesG (L.drop k) = if (L[k]'(by omega)) = [] then some [] else none := by
  rw [List.drop_eq_getElem_cons (show k < L.length by omega), List.drop_eq_nil_of_le (by omega)]
  rfl

set_option maxHeartbeats 4000000 in
set_option maxRecDepth 100000 in
theorem refScan_any (t : ByteArray) (most : Nat) (w : World) (hm : most ≤ 1000000) (ht : t.size ≤ 4611686018427387904) :
    Calls Tryz.prog 51 #[.string t, .int .i64 most] w fun e w' => ∃ v, (∃ k : Int, e = .returned (.tuple #[v, .int .i64 (scanQ most t).2, .int .i64 k])) ∧ SlV (rSlice rStr) w' (fun b => w.heap.size ≤ b) (scanQ most t).1 v ∧ Below w.heap.size w w' := by
  by_cases hbig : most < t.size
  · have hq : Hid (scanQ most t = ([], 25)) := by unfold Hid scanQ; rw [if_pos hbig]
    have hI : (most : Int) < (t.size : Int) := by omega
    clear hbig
    go_enter Tryz.func51, Tryz.ntmps51
    go_wp2_with fail
    go_ret3
    rw [hq.out]
    exact ⟨_, ⟨_, rfl⟩, SlV.nil_ _ _ _, Below.refl _ _⟩
  have hI : ¬ (most : Int) < (t.size : Int) := by omega
  obtain ⟨L, hL⟩ : ∃ L, L = splL 10 [] t.data.toList := ⟨_, rfl⟩
  obtain ⟨F, hF⟩ : ∃ F, F = linesF t.data.toList := ⟨_, rfl⟩
  have HF0 : Hid (F = (linesG (L.drop 0)).map ([] ++ ·)) := by unfold Hid; rw [hF, hL, List.drop_zero]; unfold linesF; cases linesG (splL 10 [] t.data.toList) <;> rfl
  have HqN : Hid (F = none → scanQ most t = ([], 22)) := fun h => by unfold scanQ linesB; rw [if_neg hbig, ← hF, h]; rfl
  have HqS : Hid (∀ l, F = some l → scanQ most t = (wordsM l, 0)) := fun l h => by unfold scanQ linesB; rw [if_neg hbig, ← hF, h]; rfl
  have HLl : Hid (0 < L.length ∧ L.length ≤ 1000001) := by
    have h1 := splL_len 10 t.data.toList []
    rw [← size_data] at h1
    obtain ⟨p, l, _, h2⟩ := splL_acc 10 t.data.toList []
    unfold Hid
    rw [hL]
    exact ⟨by rw [h2]; simp, by omega⟩
  have Hsp : Hid (∀ W, Calls Tryz.prog 87 #[.string t, .int .u8 10] W fun e w' => ∃ v, e = .returned v ∧ SlV rStr w' (fun b => W.heap.size ≤ b) (L.map mkB) v ∧ Below W.heap.size W w') := fun W => by rw [hL]; exact refSplit_any t 10 10 rfl W (by omega)
  have HLs : Hid (∀ x ∈ L, x.length ≤ 1000000) := fun x hx => by
    have key : ∀ (s acc : List UInt8), ∀ x ∈ splL 10 acc s, x.length ≤ acc.length + s.length := by
      intro s
      induction s with
      | nil => intro acc x hx; rw [splL] at hx; obtain rfl := List.mem_singleton.1 hx; simp
      | cons c s ih =>
        intro acc x hx
        by_cases h : c = 10
        · subst h
          rw [splL_hit] at hx
          rcases List.mem_cons.1 hx with rfl | hx
          · simp
          · have := ih [] x hx; simp at this ⊢; omega
        · rw [splL_next h] at hx
          have := ih _ x hx; simp at this ⊢; omega
    rw [hL] at hx
    have := key _ _ x hx
    rw [← size_data] at this
    simp at this
    omega
  have HML : Hid ((L.map mkB).length = L.length) := List.length_map _
  have Hli : Hid (∀ k, (h : k < L.length) → ∀ W, Calls Tryz.prog 88 #[.string (mkB L[k])] W fun e w' => ∃ v, e = .returned (.tuple #[v, .bool (lineF L[k]).isSome]) ∧ SlV rStr w' (fun b => W.heap.size ≤ b) (lineQ L[k]) v ∧ Below W.heap.size W w') := fun k h W =>
    refLine_any (mkB L[k]) W (by rw [size_data, mkB_data]; exact HLs.out _ (List.getElem_mem h))
  clear hL hF hbig
  obtain ⟨Q, hQ⟩ : ∃ Q, Q = scanQ most t := ⟨_, rfl⟩
  rw [← hQ] at HqN HqS ⊢
  clear hQ
  go_enter Tryz.func51, Tryz.ntmps51
  go_wp2_with fail
  refine (Hsp.out _).mono ?_
  rintro e w1 ⟨v1, rfl, hv1, hb1⟩
  obtain ⟨A1, c1, rfl, _, _⟩ := hv1.val
  rw [HML.out] at hv1 ⊢
  have HV1 := Lib.hid (hv1.more (S' := fun b => b < w1.heap.size) fun b _ h => h)
  have HB1 := Lib.hid hb1
  clear hv1 hb1 Hsp
  obtain ⟨ln, hln⟩ : ∃ ln, ln = L.length := ⟨_, rfl⟩
  rw [← hln] at HV1 ⊢
  have Hln := Lib.hid hln
  obtain ⟨hl0, hl5⟩ : 0 < ln ∧ ln ≤ 1000001 := by rw [hln]; exact HLl.out
  clear hln
  go_wp2_with fail
  go_loopw [7, 9] (fun v i wr => ∃ (k : Nat) (done : List (List (List UInt8))) (S : Nat → Prop), k + 1 ≤ ln ∧ i = .int .i64 k ∧ done.length = k ∧ Hid (F = (linesG (L.drop k)).map (done ++ ·)) ∧ Hid (Own (rSlice rStr) wr w1.heap.size 61 v (wordsM done) S) ∧ Hid (∀ b, S b → w1.heap.size ≤ b) ∧ Hid (Below w1.heap.size w1 wr)) (fun _ i _ => ln - (intOf i).toNat)
  case atStart => exact ⟨0, [], fun _ => False, hl0, rfl, rfl, HF0, Own.nil_ _ _ _ _ (fun b hb => hb.elim), fun b hb => hb.elim, Below.refl _ _⟩
  case round =>
    clear HF0
    obtain ⟨k, done, S, hk, rfl, hdl, Hm, Hown, HS, HB⟩ := hrel
    have HBw := Lib.hid (bot HB1.out HB.out)
    have hkL : k < L.length := by have := Hln.out; omega
    have hkx : k < (L.map mkB).length := by rw [HML.out]; exact hkL
    have hw1 : IntKind.i64.wrap ((k : Int) + 1) = (k : Int) + 1 := IntWalk.i64_in _ ⟨by omega, by omega⟩
    have hlw := HV1.out.below HB.out (fun b hb => hb)
    obtain ⟨b, o, cs, rfl, hSb, hbl, hsp, hcell⟩ := hlw.elem (List.getElem?_eq_getElem hkx)
    obtain ⟨rfl, _⟩ := hsp
    have c0 := hcell 0 _ rfl
    simp only [rStr, Nat.add_zero, Nat.mul_one] at c0
    clear hcell
    simp only [List.getElem_map] at c0
    have hk0 : (0 : Int) ≤ (k : Int) := by omega
    have hkn : (k : Int) < (ln : Int) := by omega
    by_cases hlt : k + 1 < ln
    case neg =>
      obtain rfl : ln = k + 1 := by omega
      have hkI : ¬ (k : Int) + 1 < ((k + 1 : Nat) : Int) := by omega
      have hkI2 : ¬ (k : Int) + 1 < (k : Int) + 1 := by omega
      have hwk : IntKind.i64.wrap ((k : Int) + 1 - 1) = (k : Int) := by rw [IntWalk.i64_in _ ⟨by omega, by omega⟩]; omega
      have hwk2 : IntKind.i64.wrap (((k + 1 : Nat) : Int) - 1) = (k : Int) := by rw [IntWalk.i64_in _ ⟨by omega, by omega⟩]; omega
      have hfe := linesG_end (L := L) (k := k) (by have := Hln.out; omega)
      by_cases he : L[k] = []
      · rw [if_pos he] at hfe
        have hq := HqS.out done (by rw [Hm.out, hfe]; simp)
        subst hq
        have hbe : ((mkB L[k]).toList != []) = false := by rw [he, Go.ByteArray.toList_eq]; rfl
        have hbe2 : ((mkB L[k]).toList == []) = true := by rw [he, Go.ByteArray.toList_eq]; rfl
        have hs := Hown.out.slv.more (S' := fun b => w.heap.size ≤ b) fun b hb _ => by
          have := HB1.out.size
          rcases hb with hb | hb
          · have := HS.out b hb; omega
          · omega
        have HSl := Lib.hid hs
        clear hs hfe he HqN HqS hlw Hm
        generalize mkB L[k] = x at *
        go_wp2_with fail
        go_ret3
        exact ⟨_, ⟨_, rfl⟩, HSl.out, HBw.out⟩
      · rw [if_neg he] at hfe
        have hq := HqN.out (by rw [Hm.out, hfe]; rfl)
        subst hq
        have hbe : ((mkB L[k]).toList == []) = false := by
          rw [beq_eq_false_iff_ne, Go.ByteArray.toList_eq]; exact he
        have hbe2 : ((mkB L[k]).toList != []) = true := by
          rw [bne_iff_ne, Go.ByteArray.toList_eq]; exact he
        clear hfe he HqN HqS hlw Hm
        generalize mkB L[k] = x at *
        go_wp2_with fail
        go_ret3
        exact ⟨_, ⟨_, rfl⟩, SlV.nil_ _ _ _, HBw.out⟩
    have hkI : (k : Int) + 1 < (ln : Int) := by omega
    have hst := linesG_take (by have := Hln.out; omega) Hm.out
    have Hst := Lib.hid hst
    have Hl := Lib.hid (Hli.out k hkL)
    have Hlq : Hid (lineQ L[k] = lineV (lineF L[k])) := rfl
    clear hst hlw Hm
    generalize mkB L[k] = x at *
    generalize lineQ L[k] = LQ at *
    generalize lineF L[k] = LF at *
    go_wp2_with fail
    refine (Hl.out _).mono ?_
    rintro e w2 ⟨v2, rfl, hv2, hb2⟩
    cases LF with
    | none =>
      have hq := HqN.out Hst.out
      subst hq
      simp only [Option.isSome_none]
      have HB2 := Lib.hid (bot HBw.out hb2)
      clear Hst HqN HqS hb2 hv2 Hlq
      go_wp2_with fail
      go_ret3
      exact ⟨_, ⟨_, rfl⟩, SlV.nil_ _ _ _, HB2.out⟩
    | some ws =>
      have hlq : LQ = ws.map mkB := Hlq.out
      subst hlq
      obtain ⟨A2, c2, rfl, hcl, hcm⟩ := hv2.val
      obtain ⟨n2, hn2⟩ : ∃ n, n = (ws.map mkB).length := ⟨_, rfl⟩
      rw [← hn2] at hv2 ⊢
      have hBo : ∀ q, u7.ownBlock = some q → q < wr.heap.size := fun q hq => (Hown.out.lt q hq).2
      have hzr := HB.out.size
      have hown2 := (Hown.out.keep hb2).moreNew hBo
      have HB2 := Lib.hid (HB.out.trans (hb2.mono HB.out.size))
      have Hh : Hid ((rSlice rStr).holds w2 (fun b => S b ∨ (wr.heap.size ≤ b ∧ b < w2.heap.size)) (ws.map mkB) [.slice A2 n2 c2]) := hv2.more fun b hb hlt => .inr ⟨hb, hlt⟩
      have HS2 : Hid (∀ b, (S b ∨ (wr.heap.size ≤ b ∧ b < w2.heap.size)) → w1.heap.size ≤ b) := fun b hb => by
        rcases hb with hb | hb
        · exact HS.out b hb
        · omega
      have Hown2 := Lib.hid hown2
      have Hmp : Hid (wordsM (done ++ [ws]) = wordsM done ++ [ws.map mkB]) := by unfold Hid wordsM; rw [List.map_append]; rfl
      have Hlen : Hid ((wordsM done).length = k) := by unfold Hid wordsM; rw [List.length_map]; exact hdl
      have Hdl2 : Hid ((done ++ [ws]).length = k + 1) := by unfold Hid; rw [List.length_append, hdl]; rfl
      have hz2 := HB2.out.size
      simp only [Option.isSome_some]
      simp only at Hst
      clear hown2 hv2 hb2 hn2 hcl hcm Hown HS HB hBo hdl Hlq HqN HqS Hl
      generalize wordsM done = dm at *
      generalize ws.map mkB = wm at *
      go_wp2_with (at_builtin; refine wpList_push (by rfl) _ _ _ (by rfl) elt_strs Tryz.underlying58 (by rfl) (Hown2.out.alloc _) ⟨w2.heap.size, 0, none⟩ 1 [.slice A2 n2 c2] wm (by rfl) (Rp.alloc Hh.out _) (news_of w2 #[.slice A2 n2 c2] _) (by rw [Hlen.out]; unfold maxLen; omega) (by rw [Hlen.out]; omega) (by simp; omega) (w2.heap.size + 1) (by simp) ?_)
      intro g cap w5 hown5 hgrow5 hat5 hg5
      have HB5 : Hid (Below w1.heap.size w1 w5) := (HB2.out.alloc hz2 _).grown hgrow5 (by simp; omega) (fun q hq => (Hown2.out.lt q hq).1)
      have Hown5 := Lib.hid hown5
      clear hown5 hgrow5 Hown2 HB2
      go_wp2_with fail
      go_roundw
      case rel => exact ⟨k + 1, done ++ [ws], _, by omega, by go_num, Hdl2.out, Hst, by unfold Hid; rw [Hmp.out]; exact Hown5.out, HS2, HB5⟩
      case measure => simp [intOf]; omega
end Go.Proofs.YtldjldkejjeamaaGreatDoor
