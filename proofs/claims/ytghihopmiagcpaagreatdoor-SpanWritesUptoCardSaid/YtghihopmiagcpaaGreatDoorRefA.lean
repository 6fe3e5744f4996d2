/-
  halyardref03.alternatives, words: a text's parts between bars, between blanks, walked.
-/
import Derived.Test.YtghihopmiagcpaaGreatDoorAltP
import Derived.Test.YtghihopmiagcpaaGreatDoorVParse
import Derived.Test.YtghihopmiagcpaaGreatDoorSpanJ
set_option autoImplicit false
set_option relaxedAutoImplicit false
set_option linter.unusedVariables false
set_option linter.unusedSimpArgs false
namespace Go.Proofs.YtghihopmiagcpaaGreatDoor
open Go.Rows Go.RowKit Go.Shelf Go.Sort

/-- the bytes from a place to another one -/
def cut (s : List UInt8) (b k : Nat) : List UInt8 := (s.take k).drop b
theorem cutl_self (s : List UInt8) (k : Nat) : cut s k k = [] := by unfold cut; rw [List.drop_eq_nil_of_le]; rw [List.length_take]; omega
theorem cutl_next {s : List UInt8} {b k : Nat} (hb : b ≤ k) (hk : k < s.length) : cut s b (k + 1) = cut s b k ++ [s[k]] := by
  unfold cut
  rw [List.take_succ_eq_append_getElem hk, List.drop_append_of_le_length (by rw [List.length_take]; omega)]
theorem cutl_extract {s : ByteArray} {b k : Nat} (hk : k ≤ s.size) : s.extract b k = mkB (cut s.data.toList b k) := by
  apply bytes_ext
  rw [mkB_data]
  unfold cut
  rw [show (s.extract b k).data.toList = (s.data.toList.take k).drop b from by
    simp [ByteArray.data_extract, Array.toList_extract, List.extract_eq_take_drop, List.drop_take]]
theorem drop_at {s : ByteArray} {k : Nat} (hk : k < s.size) : s.data.toList.drop k = s[k] :: s.data.toList.drop (k + 1) := byte_at s k hk
theorem cutl_nextB {s : ByteArray} {b k : Nat} (hb : b ≤ k) (hk : k < s.size) : cut s.data.toList b (k + 1) = cut s.data.toList b k ++ [s[k]] := by
  have h' : k < s.data.toList.length := by rw [← size_data]; exact hk
  rw [cutl_next hb h']
  have e : s.data.toList[k] = s[k] := by
    have := byte_at s k hk
    rw [List.drop_eq_getElem_cons h'] at this
    exact (List.cons.inj this).1
  rw [e]
theorem cutl_end {s : ByteArray} {b : Nat} {k : Nat} (hb : b ≤ k) : cut s.data.toList b k ++ s.data.toList.drop k = s.data.toList.drop b := by
  unfold cut
  by_cases h : k ≤ s.data.toList.length
  · conv => rhs; rw [← List.take_append_drop k s.data.toList]
    rw [List.drop_append_of_le_length (by rw [List.length_take]; omega)]
  · rw [List.take_of_length_le (by omega), List.drop_eq_nil_of_le (by omega : s.data.toList.length ≤ k), List.append_nil]
theorem elt_strA : Elt Tryz.prog 9 1 16 := Elt.mk' (z := .string ⟨#[]⟩) (by kernel_rfl) rfl (by decide)

set_option maxHeartbeats 4000000 in
set_option maxRecDepth 100000 in
theorem alternatives_any (s : ByteArray) (w : World) (hs : s.size ≤ 1000000) :
    Calls Tryz.prog 45 #[.string s] w fun e w' => ∃ v, e = .returned v ∧ SlV rStr w' (fun b => w.heap.size ≤ b) ((altL [] s.data.toList).map mkB) v ∧ Below w.heap.size w w' := by
  obtain ⟨F, hF⟩ : ∃ F, F = altL [] s.data.toList := ⟨_, rfl⟩
  rw [← hF]
  have HF0 : Hid (F = [] ++ altL (cut s.data.toList 0 0) (s.data.toList.drop 0)) := by unfold Hid; rw [hF, cutl_self]; rfl
  have HL := Lib.hid (size_data s)
  clear hF
  go_enter Tryz.func45, Tryz.ntmps45
  go_wp2_with fail
  go_loopw [3, 4, 5] (fun v b i wr => ∃ (k bg : Nat) (done : List (List UInt8)), k ≤ s.size ∧ bg ≤ k ∧ i = .int .i64 k ∧ b = .int .i64 bg ∧ done.length ≤ k ∧ Hid (F = done ++ altL (cut s.data.toList bg k) (s.data.toList.drop k)) ∧ Hid (Own rStr wr w.heap.size 9 v (done.map mkB) (fun _ => False)) ∧ Hid (Below w.heap.size w wr)) (fun _ _ i _ => s.size - (intOf i).toNat)
  case atStart => exact ⟨0, 0, [], Nat.zero_le _, Nat.le_refl _, rfl, rfl, Nat.le_refl _, HF0, Own.nil_ _ _ _ _ (fun b hb => hb.elim), Below.refl _ _⟩
  case round =>
    clear HF0
    obtain ⟨k, bg, done, hk, hbk, rfl, rfl, hdl, Hm, Hown, HB⟩ := hrel
    have hw1 : IntKind.i64.wrap ((k : Int) + 1) = (k : Int) + 1 := IntWalk.i64_in _ ⟨by omega, by omega⟩
    have hzr := HB.out.size
    by_cases hlt : k + 1 < s.size
    · have hkI : (k : Int) + 1 < (s.size : Int) := by omega
      have hk0 : (0 : Int) ≤ (k : Int) := by omega
      have hk1 : (0 : Int) ≤ (k : Int) + 1 := by omega
      have hkI0 : (k : Int) < (s.size : Int) := by omega
      have hd1 := drop_at (s := s) (k := k) (by omega)
      have hd2 := drop_at (s := s) (k := k + 1) hlt
      by_cases h1 : s[k] = 124
      · have t1 : ((s[k].toNat : Int) == 124) = true := by rw [h1]; rfl
        by_cases h2 : s[k + 1] = 124
        · have t2 : ((s[k + 1].toNat : Int) == 124) = true := by rw [h2]; rfl
          have Hm2 : Hid (F = (done ++ [cut s.data.toList bg k]) ++ altL (cut s.data.toList (k + 2) (k + 2)) (s.data.toList.drop (k + 2))) := by
            unfold Hid
            rw [Hm.out, hd1, hd2, h1, h2, altL_bars, cutl_self, List.append_assoc]; rfl
          have Hx := Lib.hid (cutl_extract (s := s) (b := bg) (k := k) hk)
          have Hlen : Hid ((done.map mkB).length = done.length) := List.length_map _
          have Hmp : Hid ((done ++ [cut s.data.toList bg k]).map mkB = done.map mkB ++ [s.extract bg k]) := by unfold Hid; rw [List.map_append, Hx.out]; rfl
          have Hle : Hid ((done ++ [cut s.data.toList bg k]).length = done.length + 1) := by unfold Hid; simp
          have hxs : (s.extract bg k).size ≤ maxLen := by rw [ByteArray.size_extract]; unfold maxLen; omega
          generalize done ++ [cut s.data.toList bg k] = done2 at *
          generalize hdm : done.map mkB = dm at *
          have Hxs := Lib.hid hxs
          clear Hm hd1 hd2 h1 h2 Hx hxs hdm
          have hbI : (bg : Int) ≤ (k : Int) := by omega
          have hw2 : IntKind.i64.wrap ((k : Int) + 2) = ((k + 2 : Nat) : Int) := by rw [IntWalk.i64_in _ ⟨by omega, by omega⟩]; omega
          go_wp2_with (at_builtin; refine wpList_push (by rfl) _ _ _ (by rfl) elt_strA Tryz.underlying37 (by rfl) (Hown.out.alloc _) ⟨wr.heap.size, 0, none⟩ 1 [.string (s.extract bg k)] (s.extract bg k) (by rfl) ⟨rfl, Hxs.out⟩ (news_of wr #[.string (s.extract bg k)] _) (by rw [Hlen.out]; unfold maxLen; omega) (by rw [Hlen.out]; omega) (by simp; omega) (wr.heap.size + 1) (by simp) ?_)
          intro g cap w5 hown5 hgrow5 hat5 hg5
          have HB5 := Lib.hid (bgrown (bal HB.out _) hgrow5 (Hown.out.alloc _) (Nat.le_refl _))
          have Hown5 := Lib.hid hown5
          clear hown5 hgrow5 Hown HB
          go_wp2_with fail
          go_roundw
          case rel => exact ⟨k + 2, k + 2, done2, by omega, Nat.le_refl _, by go_num, by go_num, by rw [Hle.out]; omega, Hm2, by unfold Hid; rw [Hmp.out]; exact Hown5.out, HB5⟩
          case measure => simp [intOf]; omega
        · have t2 : ((s[k + 1].toNat : Int) == 124) = false := by
            rw [beq_eq_false_iff_ne]; intro e; exact h2 (UInt8.toNat_inj.1 (by show s[k + 1].toNat = 124; omega))
          have Hm2 : Hid (F = done ++ altL (cut s.data.toList bg (k + 1)) (s.data.toList.drop (k + 1))) := by
            unfold Hid
            rw [Hm.out, hd1, hd2, altL_next (fun e => h2 e.2), cutl_nextB hbk (by omega)]
          clear Hm hd1 hd2 h1 h2
          go_wp2_with fail
          go_roundw
          case rel => exact ⟨k + 1, bg, done, by omega, by omega, by go_num, rfl, by omega, Hm2, Hown, HB⟩
          case measure => simp [intOf]; omega
      · have t1 : ((s[k].toNat : Int) == 124) = false := by
          rw [beq_eq_false_iff_ne]; intro e; exact h1 (UInt8.toNat_inj.1 (by show s[k].toNat = 124; omega))
        have Hm2 : Hid (F = done ++ altL (cut s.data.toList bg (k + 1)) (s.data.toList.drop (k + 1))) := by
          unfold Hid
          rw [Hm.out, hd1, altL_other h1, cutl_nextB hbk (by omega)]
        clear Hm hd1 hd2 h1
        go_wp2_with fail
        go_roundw
        case rel => exact ⟨k + 1, bg, done, by omega, by omega, by go_num, rfl, by omega, Hm2, Hown, HB⟩
        case measure => simp [intOf]; omega
    · have hkI : ¬ (k : Int) + 1 < (s.size : Int) := by omega
      have Hfin : Hid (F = done ++ [s.data.toList.drop bg]) := by
        unfold Hid
        rw [Hm.out]
        congr 1
        rw [← cutl_end (s := s) hbk]
        have hdl' : (s.data.toList.drop k).length ≤ 1 := by rw [List.length_drop, ← size_data]; omega
        match hq : s.data.toList.drop k, hdl' with
        | [], _ => rw [altL, List.append_nil]
        | [c], _ => rfl
        | c :: d :: t, h => exact absurd h (by simp)
      have Hx : Hid (s.extract bg s.size = mkB (s.data.toList.drop bg)) := bytes_ext (by rw [Lib.extract_to_end]; rfl)
      have Hlen : Hid ((done.map mkB).length = done.length) := List.length_map _
      have Hmp : Hid (F.map mkB = done.map mkB ++ [s.extract bg s.size]) := by unfold Hid; rw [Hfin.out, List.map_append, Hx.out]; rfl
      have hxs : (s.extract bg s.size).size ≤ maxLen := by rw [ByteArray.size_extract]; unfold maxLen; omega
      have Hxs := Lib.hid hxs
      have hbI : (bg : Int) ≤ (s.size : Int) := by omega
      generalize hdm : done.map mkB = dm at *
      clear Hm Hfin Hx hxs hdm
      go_wp2_with (at_builtin; refine wpList_push (by rfl) _ _ _ (by rfl) elt_strA Tryz.underlying37 (by rfl) (Hown.out.alloc _) ⟨wr.heap.size, 0, none⟩ 1 [.string (s.extract bg s.size)] (s.extract bg s.size) (by rfl) ⟨rfl, Hxs.out⟩ (news_of wr #[.string (s.extract bg s.size)] _) (by rw [Hlen.out]; unfold maxLen; omega) (by rw [Hlen.out]; omega) (by simp; omega) (wr.heap.size + 1) (by simp) ?_)
      intro g cap w5 hown5 hgrow5 hat5 hg5
      have HB5 := Lib.hid (bgrown (bal HB.out _) hgrow5 (Hown.out.alloc _) (Nat.le_refl _))
      have Hown5 := Lib.hid hown5
      clear hown5 hgrow5 Hown HB
      go_wp2_with fail
      go_ret
      exact ⟨_, rfl, by rw [Hmp.out]; exact Hown5.out.slvB, HB5.out⟩

/-- the words of a text: its parts between blanks that are not empty -/
def wordsL (l : List UInt8) : List (List UInt8) := (wrdL [] l).filter fun p => !p.isEmpty
theorem wordsL_part {p t : List UInt8} (h : (32 : UInt8) ∉ p) : wordsL (p ++ 32 :: t) = (if p = [] then [] else [p]) ++ wordsL t := by
  unfold wordsL
  rw [wrdL_part p [] t h, List.nil_append, List.filter_cons]
  cases p <;> simp
theorem wordsL_last {p : List UInt8} (h : (32 : UInt8) ∉ p) : wordsL p = (if p = [] then [] else [p]) := by
  unfold wordsL
  rw [wrdL_last p [] h, List.nil_append, List.filter_cons]
  cases p <;> simp

set_option maxHeartbeats 4000000 in
set_option maxRecDepth 100000 in
theorem words_any (s : ByteArray) (w : World) (hs : s.size ≤ 1000000) :
    Calls Tryz.prog 46 #[.string s] w fun e w' => ∃ v, e = .returned v ∧ SlV rStr w' (fun b => w.heap.size ≤ b) ((wordsL s.data.toList).map mkB) v ∧ Below w.heap.size w w' := by
  obtain ⟨F, hF⟩ : ∃ F, F = wordsL s.data.toList := ⟨_, rfl⟩
  rw [← hF]
  have HF0 : Hid (F = [] ++ wordsL (s.data.toList.drop 0)) := by unfold Hid; rw [hF]; rfl
  have HL := Lib.hid (size_data s)
  clear hF
  go_enter Tryz.func46, Tryz.ntmps46
  go_wp2_with fail
  go_loopw [3, 4] (fun v i wr => ∃ (k : Nat) (done : List (List UInt8)), k ≤ s.size + 1 ∧ i = .int .i64 k ∧ done.length ≤ k ∧ Hid (F = done ++ wordsL (s.data.toList.drop k)) ∧ Hid (Own rStr wr w.heap.size 9 v (done.map mkB) (fun _ => False)) ∧ Hid (Below w.heap.size w wr)) (fun _ i _ => s.size + 1 - (intOf i).toNat)
  case atStart => exact ⟨0, [], Nat.zero_le _, rfl, Nat.le_refl _, HF0, Own.nil_ _ _ _ _ (fun b hb => hb.elim), Below.refl _ _⟩
  case round =>
    clear HF0
    obtain ⟨k, done, hk, rfl, hdl, Hm, Hown, HB⟩ := hrel
    by_cases hlt : k < s.size
    case neg =>
      have hkI : ¬ (k : Int) < (s.size : Int) := by omega
      have Hfin : Hid (F = done) := by
        unfold Hid
        rw [Hm.out, List.drop_eq_nil_of_le (by rw [← size_data]; omega)]
        exact List.append_nil _
      clear Hm
      go_wp2_with fail
      go_ret
      exact ⟨_, rfl, by rw [Hfin.out]; exact Hown.out.slvB, HB.out⟩
    have hkI : (k : Int) < (s.size : Int) := by omega
    have hk0 : (0 : Int) ≤ (k : Int) := by omega
    go_wp2_with fail
    obtain ⟨wo, hwo⟩ : ∃ wo : World, wo = wr := ⟨_, rfl⟩
    rw [← hwo] at Hown HB
    have Hwo : Hid (wo = wr) := hwo
    clear hwo
    go_loopw [5] (fun j wx => ∃ m : Nat, k ≤ m ∧ m ≤ s.size ∧ j = .int .i64 m ∧ Hid ((32 : UInt8) ∉ cut s.data.toList k m) ∧ Hid (wx = wo)) (fun j _ => s.size - (intOf j).toNat)
    case atStart => exact ⟨k, Nat.le_refl _, by omega, rfl, by unfold Hid; rw [cutl_self]; simp, Hwo.out.symm⟩
    case round =>
      obtain ⟨m, hkm, hms, rfl, Hno, Hwx⟩ := hrel
      by_cases hend : m < s.size ∧ s[m]! ≠ 32
      · obtain ⟨hm, hne⟩ := hend
        have hget : s[m]! = s[m] := by simp [getElem!_pos, hm]
        rw [hget] at hne
        have hmI : (m : Int) < (s.size : Int) := by omega
        have hm0 : (0 : Int) ≤ (m : Int) := by omega
        have t1 : ((s[m].toNat : Int) != 32) = true := by
          rw [bne_iff_ne]; intro e; exact hne (UInt8.toNat_inj.1 (by show s[m].toNat = 32; omega))
        have t2 : ((s[m].toNat : Int) == 32) = false := by
          rw [beq_eq_false_iff_ne]; intro e; exact hne (UInt8.toNat_inj.1 (by show s[m].toNat = 32; omega))
        have Hno2 : Hid ((32 : UInt8) ∉ cut s.data.toList k (m + 1)) := by
          unfold Hid
          rw [cutl_nextB hkm hm]
          intro h
          rcases List.mem_append.1 h with h | h
          · exact Hno.out h
          · exact hne (List.mem_singleton.1 h).symm
        clear hne hget
        go_wp2_with fail
        go_roundw
        case rel => exact ⟨m + 1, by omega, by omega, by go_num, Hno2, Hwx⟩
        case measure => simp [intOf]; omega
      have hstop : (m = s.size) ∨ (∃ h : m < s.size, s[m] = 32) := by
        by_cases h : m < s.size
        · right
          refine ⟨h, ?_⟩
          refine Classical.byContradiction fun hn => hend ⟨h, ?_⟩
          have hget : s[m]! = s[m] := by simp [getElem!_pos, h]
          rw [hget]; exact hn
        · left; omega
      have Hnext : Hid (wordsL (s.data.toList.drop k) = (if cut s.data.toList k m = [] then [] else [cut s.data.toList k m]) ++ wordsL (s.data.toList.drop (m + 1))) := by
        unfold Hid
        rw [← cutl_end (s := s) hkm]
        rcases hstop with h | ⟨h, hs32⟩
        · rw [List.drop_eq_nil_of_le (by rw [← size_data]; omega), List.append_nil, wordsL_last Hno.out, List.drop_eq_nil_of_le (by rw [← size_data]; omega)]
          exact (List.append_nil _).symm
        · rw [drop_at h, hs32, wordsL_part Hno.out]
      have hcut0 : k = m → cut s.data.toList k m = [] := fun e => by rw [e, cutl_self]
      have hcut1 : k < m → cut s.data.toList k m ≠ [] := fun e h => by
        have := congrArg List.length h
        unfold cut at this
        rw [List.length_drop, List.length_take, ← size_data] at this
        simp only [List.length_nil] at this
        omega
      have Hc0 := Lib.hid hcut0
      have Hc1 := Lib.hid hcut1
      have hm0 : (0 : Int) ≤ (m : Int) := by omega
      have Hx := Lib.hid (cutl_extract (s := s) (b := k) (k := m) hms)
      have hcase : (¬ (m : Int) < (s.size : Int) ∧ decide ((m : Int) < (s.size : Int)) = false ∧ decide (m < s.size) = false) ∨ ∃ h : m < s.size, (m : Int) < (s.size : Int) ∧ ((s[m].toNat : Int) != 32) = false ∧ ((s[m].toNat : Int) == 32) = true := by
        rcases hstop with h | ⟨h, hs32⟩
        · exact .inl ⟨by omega, decide_eq_false (by omega), decide_eq_false (by omega)⟩
        · exact .inr ⟨h, by omega, by rw [hs32]; rfl, by rw [hs32]; rfl⟩
      have Hm' := Lib.hid (Hm.out.trans (by rw [Hnext.out]))
      clear hcut0 hcut1 hstop Hno hend Hnext Hm
      have hwe := Hwx.out
      subst hwe
      have hzr := HB.out.size
      have hmn : (k : Int) ≤ (m : Int) := by omega
      have hm9 : (m : Int) ≤ (s.size : Int) := by omega
      by_cases hkm2 : k = m
      · subst hkm2
        have hgt : ¬ (k : Int) < (k : Int) := by omega
        have Hm2 : Hid (F = done ++ wordsL (s.data.toList.drop (k + 1))) := by unfold Hid; rw [Hm'.out, if_pos (Hc0.out rfl)]; rfl
        clear Hm' Hc0 Hc1 Hx
        obtain ⟨q0, q1, q2, q3⟩ := hcase.resolve_left fun h => h.1 (by omega)
        go_wp2_with fail
        go_roundw
        case rel => exact ⟨k + 1, done, by omega, by go_num, by omega, Hm2, Hown, HB⟩
        case measure => simp [intOf]; omega
      · have hgt : (k : Int) < (m : Int) := by omega
        have Hm2 : Hid (F = (done ++ [cut s.data.toList k m]) ++ wordsL (s.data.toList.drop (m + 1))) := by unfold Hid; rw [Hm'.out, if_neg (Hc1.out (by omega)), List.append_assoc]
        have Hlen : Hid ((done.map mkB).length = done.length) := List.length_map _
        have Hmp : Hid ((done ++ [cut s.data.toList k m]).map mkB = done.map mkB ++ [s.extract k m]) := by unfold Hid; rw [List.map_append, Hx.out]; rfl
        have Hle : Hid ((done ++ [cut s.data.toList k m]).length = done.length + 1) := by unfold Hid; simp
        have hxs : (s.extract k m).size ≤ maxLen := by rw [ByteArray.size_extract]; unfold maxLen; omega
        have Hxs := Lib.hid hxs
        generalize done ++ [cut s.data.toList k m] = done2 at *
        generalize hdm : done.map mkB = dm at *
        clear Hm' Hc0 Hc1 Hx hxs hdm
        rcases hcase with ⟨q1, q2, q3⟩ | ⟨q0, q1, q2, q3⟩
        all_goals
          go_wp2_with (at_builtin; refine wpList_push (by rfl) _ _ _ (by rfl) elt_strA Tryz.underlying37 (by rfl) (Hown.out.alloc _) ⟨wr.heap.size, 0, none⟩ 1 [.string (s.extract k m)] (s.extract k m) (by rfl) ⟨rfl, Hxs.out⟩ (news_of wr #[.string (s.extract k m)] _) (by rw [Hlen.out]; unfold maxLen; omega) (by rw [Hlen.out]; omega) (by simp; omega) (wr.heap.size + 1) (by simp) ?_)
          intro g cap w5 hown5 hgrow5 hat5 hg5
          have HB5 := Lib.hid (bgrown (bal HB.out _) hgrow5 (Hown.out.alloc _) (Nat.le_refl _))
          have Hown5 := Lib.hid hown5
          clear hown5 hgrow5 Hown HB
          go_wp2_with fail
          go_roundw
          case rel => exact ⟨m + 1, done2, by omega, by go_num, by rw [Hle.out]; omega, Hm2, by unfold Hid; rw [Hmp.out]; exact Hown5.out, HB5⟩
          case measure => simp [intOf]; omega
end Go.Proofs.YtghihopmiagcpaaGreatDoor
