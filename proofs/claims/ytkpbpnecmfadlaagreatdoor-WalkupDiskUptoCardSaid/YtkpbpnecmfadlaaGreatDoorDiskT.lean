/-
  A disk's paths: cut at slashes (plain); the program's below, walked.
  A disk's paths: the document's Path, walked.
-/
import Derived.Test.YtkpbpnecmfadlaaGreatDoorDiskR
import Derived.Test.YtkpbpnecmfadlaaGreatDoorParse
set_option autoImplicit false
set_option relaxedAutoImplicit false
set_option linter.unusedVariables false
set_option linter.unusedSimpArgs false
namespace Go.Proofs.YtkpbpnecmfadlaaGreatDoor
open Go.Rows Go.RowKit Go.Shelf

/-- a text's pieces between slashes; ahead of the first: what is read already -/
def cutS : List UInt8 → List UInt8 → List (List UInt8)
  | acc, [] => [acc]
  | acc, c :: t => if c = 47 then acc :: cutS [] t else cutS (acc ++ [c]) t
theorem cutS_none : ∀ (l acc : List UInt8), (∀ b ∈ l, b ≠ 47) → cutS acc l = [acc ++ l]
  | [], acc, _ => by rw [cutS, List.append_nil]
  | c :: t, acc, h => by
    rw [cutS, if_neg (h c (by simp)), cutS_none t _ (fun b hb => h b (by simp [hb]))]
    simp
theorem cutS_at : ∀ (l acc r : List UInt8), (∀ b ∈ l, b ≠ 47) → cutS acc (l ++ 47 :: r) = (acc ++ l) :: cutS [] r
  | [], acc, r, _ => by rw [List.nil_append, cutS, if_pos rfl, List.append_nil]
  | c :: t, acc, r, h => by
    rw [List.cons_append, cutS, if_neg (h c (by simp)), cutS_at t _ r (fun b hb => h b (by simp [hb]))]
    simp
theorem cut47 : ∀ l : List UInt8, (∀ b ∈ l, b ≠ 47) ∨ ∃ a r, l = a ++ 47 :: r ∧ ∀ b ∈ a, b ≠ 47
  | [] => .inl fun b hb => by cases hb
  | c :: t => by
    by_cases h : c = 47
    · subst h; exact .inr ⟨[], t, rfl, fun b hb => by cases hb⟩
    · rcases cut47 t with h1 | ⟨a, r, h1, h2⟩
      · refine .inl fun b hb => ?_
        rcases List.mem_cons.1 hb with e | e
        · rw [e]; exact h
        · exact h1 b e
      · refine .inr ⟨c :: a, r, by rw [h1]; rfl, fun b hb => ?_⟩
        rcases List.mem_cons.1 hb with e | e
        · rw [e]; exact h
        · exact h2 b e
theorem index47_none : ∀ l : List UInt8, (∀ b ∈ l, b ≠ 47) → Lib.index l [47] = -1
  | [], _ => rfl
  | c :: t, h => by
    have hb : (47 == c) = false := by have := h c (by simp); simpa using fun e => this e.symm
    unfold Lib.index
    rw [List.isPrefixOf, hb, Bool.false_and, index47_none t fun b hb => h b (by simp [hb])]
    rfl
theorem index47_at : ∀ l r : List UInt8, (∀ b ∈ l, b ≠ 47) → Lib.index (l ++ 47 :: r) [47] = (l.length : Int)
  | [], r, _ => by
    rw [List.nil_append]
    unfold Lib.index
    rw [show [47].isPrefixOf (47 :: r) = true from by simp [List.isPrefixOf]]
    rfl
  | c :: t, r, h => by
    have hb : (47 == c) = false := by have := h c (by simp); simpa using fun e => this e.symm
    rw [List.cons_append]
    unfold Lib.index
    rw [List.isPrefixOf, hb, Bool.false_and, index47_at t r fun b hb => h b (by simp [hb])]
    have hne : ((t.length : Int) == -1) = false := by simp
    rw [hne]
    simp
def slashB : ByteArray := ⟨#[47]⟩
def mkS (l : List UInt8) : ByteArray := ⟨l.toArray⟩
theorem split47 : ∀ (n : Nat) (s : ByteArray), s.size ≤ n → Lib.splitB slashB 0 (Lib.countB s slashB) s = (cutS [] s.data.toList).map mkS := by
  intro n
  induction n with
  | zero =>
    intro s hs
    have e : s.data.toList = [] := List.eq_nil_of_length_eq_zero (by rw [← size_data]; omega)
    have hi : Lib.indexB s slashB = -1 := index47_none _ (by rw [e]; intro b hb; cases hb)
    rw [Lib.countB_miss s slashB hi, Lib.splitB_zero, cutS_none _ _ (by rw [e]; intro b hb; cases hb)]
    exact congrArg (fun x => [x]) (ByteArray.ext (Array.ext' (by simp [mkS])))
  | succ n ih =>
    intro s hs
    rcases cut47 s.data.toList with h | ⟨a, r, h1, h2⟩
    · have hi : Lib.indexB s slashB = -1 := index47_none _ h
      rw [Lib.countB_miss s slashB hi, Lib.splitB_zero, cutS_none _ _ h]
      exact congrArg (fun x => [x]) (ByteArray.ext (Array.ext' (by simp [mkS])))
    · have hi : Lib.indexB s slashB = (a.length : Int) := by
        show Lib.index s.data.toList [47] = _
        rw [h1]; exact index47_at a r h2
      have hsz : slashB.size = 1 := rfl
      have hss : s.size = a.length + (r.length + 1) := by rw [size_data, h1, List.length_append, List.length_cons]
      rw [Lib.countB_hit s slashB a.length (by rw [hsz]; omega) hi, Nat.add_comm 1, Lib.splitB_hit slashB 0 _ s _ hi]
      have e1 : s.extract 0 (a.length + 0) = mkS a := by
        apply ByteArray.ext
        apply Array.ext'
        rw [Lib.extract_from_zero, h1, Nat.add_zero, List.take_left]
        simp [mkS]
      have e2 : (s.extract (a.length + slashB.size) s.size).data.toList = r := by
        rw [Lib.extract_to_end, h1, hsz, show a ++ 47 :: r = (a ++ [47]) ++ r by simp, show a.length + 1 = (a ++ [47]).length by simp, List.drop_left]
      have e3 := ih (s.extract (a.length + slashB.size) s.size) (by rw [ByteArray.size_extract, hsz]; omega)
      rw [e1, e3, e2, h1, cutS_at a [] r h2]
      rfl
/-- is a text a path other than the root's -/
def diskPathB (s : ByteArray) : Bool := decide (s.size ≤ 4096) && match s.data.toList with
  | [] => false
  | c :: r => decide (c = 47) && (cutS [] r).all fun l => pieceB (mkS l)

set_option maxHeartbeats 1600000 in
set_option maxRecDepth 100000 in
theorem diskBelow_any (s : ByteArray) (hs : s.size ≤ 67108864) (w : World) (hm : MaxL w) :
    Calls Tryz.prog 10 #[.string s] w fun e w' => e = .returned (.bool (diskPathB s)) ∧ Below w.heap.size w w' := by
  by_cases h1 : 4096 < s.size
  · have Hn : Hid (diskPathB s = false) := by unfold Hid diskPathB; rw [decide_eq_false (by omega)]; rfl
    have h1I : (4096 : Int) < s.size := by omega
    clear h1 hm
    go_enter Tryz.func10, Tryz.ntmps10
    go_wp2_with fail
    go_ret
    exact ⟨ret_bool Hn.out.symm, Below.refl _ _⟩
  have h1I : ¬ (4096 : Int) < s.size := by omega
  have Hpre : Hid (∀ W, Calls Tryz.prog 29 #[.string s, .string ⟨#[47]⟩] W fun e w' => e = .returned (.bool ([47].isPrefixOf s.data.toList)) ∧ w' = W) := fun W => Tryz.strings_HasPrefix s ⟨#[47]⟩ W
  cases hp : [47].isPrefixOf s.data.toList with
  | false =>
    have Hn : Hid (diskPathB s = false) := by
      unfold Hid diskPathB
      cases hd : s.data.toList with
      | nil => simp
      | cons c r =>
        rw [hd, List.isPrefixOf] at hp
        have : decide (c = 47) = false := by
          simp at hp
          exact decide_eq_false fun e => hp e.symm
        simp only [this]; simp
    rw [hp] at Hpre
    clear h1 hm hp
    go_enter Tryz.func10, Tryz.ntmps10
    go_wp2_with fail
    refine (Hpre.out _).mono ?_
    rintro e w1 ⟨rfl, rfl⟩
    go_wp2_with fail
    go_ret
    exact ⟨ret_bool Hn.out.symm, Below.refl _ _⟩
  | true =>
    obtain ⟨r, hr⟩ : ∃ r, s.data.toList = 47 :: r := by
      obtain ⟨t, ht⟩ := List.isPrefixOf_iff_prefix.1 hp
      exact ⟨t, ht.symm⟩
    have he : (s.extract 1 s.size).data.toList = r := by rw [Lib.extract_to_end, hr]; rfl
    have hs1 : 1 ≤ s.size := by rw [size_data, hr]; simp
    have hsp := split47 _ (s.extract 1 s.size) (Nat.le_refl _)
    rw [he] at hsp
    have hln := Lib.splitB_all slashB (by decide +kernel) 0 _ (s.extract 1 s.size) rfl
    have hsl := splitB_size slashB (Lib.countB (s.extract 1 s.size) slashB) (s.extract 1 s.size)
    have hcl := Lib.countB_le slashB (by decide +kernel) _ (s.extract 1 s.size) (Nat.le_refl _)
    have hrs : (s.extract 1 s.size).size ≤ s.size := by rw [ByteArray.size_extract]; omega
    have Hq : Hid (diskPathB s = ((cutS [] r).map mkS).all pieceB) := by
      unfold Hid diskPathB
      rw [hr, decide_eq_true (p := s.size ≤ 4096) (by omega), List.all_map]
      rfl
    obtain ⟨m, hm⟩ := hm
    have Hsp : Hid (∀ W, W.cell? ⟨0, 0, none⟩ = some (.int .i64 m) → Calls Tryz.prog 30 #[.string (s.extract 1 s.size), .string ⟨#[47]⟩] W fun e w' => e = .returned (.slice (some ⟨W.heap.size, 0, none⟩) (Lib.countB (s.extract 1 s.size) slashB + 1) (Lib.countB (s.extract 1 s.size) slashB + 1)) ∧ w' = W.alloc (.cells ((Lib.splitB slashB 0 (Lib.countB (s.extract 1 s.size) slashB) (s.extract 1 s.size)).map Value.string).toArray 9)) :=
      fun W hW => Tryz.strings_Split (s.extract 1 s.size) slashB m W (by omega) hW (by decide +kernel)
    rw [hsp] at hln hsl Hsp
    rw [hp] at Hpre
    have Hm := Lib.hid hm
    have Hln := Lib.hid hln
    have Hsl := Lib.hid hsl
    have hs1I : (1 : Int) ≤ (s.size : Int) := by omega
    clear hp hr he hsp hln hsl hm h1
    generalize hcc : Lib.countB (s.extract 1 s.size) slashB = cc at *
    generalize (cutS [] r).map mkS = pp at *
    clear hcc
    go_enter Tryz.func10, Tryz.ntmps10
    go_wp2_with fail
    refine (Hpre.out _).mono ?_
    rintro e w1 ⟨rfl, rfl⟩
    go_wp2_with fail
    refine (Hsp.out _ Hm.out).mono ?_
    rintro e w2 ⟨rfl, hw2⟩
    have HV : Hid (SlV rStr w2 (fun b => b < w2.heap.size) pp (.slice (some ⟨w1.heap.size, 0, none⟩) (cc + 1) (cc + 1))) := by
      unfold Hid
      rw [hw2]
      exact SlV.of_block (heap_new _ _) (by rw [List.toList_toArray]; exact elems_strs fun x hx => by have := Hsl.out x hx; unfold maxLen; omega) (by rw [World.size_alloc]; omega) Hln.out.symm (by rw [Hln.out]; exact Nat.le_refl _) (by unfold maxLen; omega)
    have HB : Hid (Below w1.heap.size w1 w2) := by unfold Hid; rw [hw2]; exact bal (Below.refl _ _) _
    clear hw2 Hsp
    obtain ⟨g, hg⟩ : ∃ g, g = w1.heap.size := ⟨_, rfl⟩
    obtain ⟨N, hN⟩ : ∃ N, N = cc + 1 := ⟨_, rfl⟩
    rw [← hg, ← hN] at HV ⊢
    rw [← hN] at Hln
    clear hg Hpre
    have hN2 : N ≤ 67108870 := by omega
    clear hN
    have Hle : Hid (∀ x ∈ pp, x.size ≤ maxLen) := fun x hx => by have := Hsl.out x hx; unfold maxLen; omega
    have HP : Hid (∀ x, x ∈ pp → ∀ W, Calls Tryz.prog 31 #[.string x] W fun e w' => e = .returned (.bool (pieceB x)) ∧ Below W.heap.size W w') := fun x hx W => diskPart_any x (Hle.out x hx) W
    go_wp2_with fail
    clear h1I hs1I
    go_loopw [17] (fun i wr => ∃ k : Nat, k ≤ N ∧ i = .int .i64 k ∧ Hid (Below w2.heap.size w2 wr) ∧ Hid (pp.all pieceB = (pp.drop k).all pieceB)) (fun i _ => N - (intOf i).toNat)
    case atStart => exact ⟨0, Nat.zero_le _, rfl, Below.refl _ _, rfl⟩
    case round =>
      obtain ⟨k, hk, rfl, HBw, hrl⟩ := hrel
      by_cases hlt : k < N
      · have hkI : (k : Int) < (N : Int) := by omega
        have hkp : k < pp.length := by rw [Hln.out]; exact hlt
        have hx := List.getElem?_eq_getElem hkp
        have hxm : pp[k] ∈ pp := List.getElem_mem hkp
        have hst : (pp.drop k).all pieceB = (pieceB pp[k] && (pp.drop (k + 1)).all pieceB) := by rw [List.drop_eq_getElem_cons hkp, List.all_cons]
        generalize pp[k] = x at *
        have HPx := Lib.hid (HP.out x hxm)
        obtain ⟨b, o, cs, hA, _, _, hcs, hcell⟩ := (HV.out.belowSize HBw.out).elem hx
        simp only [Option.some.injEq, Addr.mk.injEq, and_true] at hA
        obtain ⟨rfl, rfl⟩ := hA
        have c0 := hcell 0 _ (by rw [hcs.1]; rfl)
        rw [show 0 + k * rStr.size + 0 = k from by show 0 + k * 1 + 0 = k; omega] at c0
        have Hst := Lib.hid hst
        clear hcell hcs hx hxm hkp hst
        go_wp2_with fail
        refine (HPx.out _).mono ?_
        rintro e w3 ⟨rfl, hb3⟩
        have HB3 := Lib.hid (bot HBw.out hb3)
        cases hpc : pieceB x with
        | true =>
          have hok : Hid (pp.all pieceB = (pp.drop (k + 1)).all pieceB) := by
            unfold Hid; rw [hrl.out, Hst.out, hpc]; rfl
          clear hb3 c0 hrl Hst hpc HBw HPx
          go_wp2_with fail
          go_roundw
          case rel => exact ⟨k + 1, by omega, by go_num, HB3, hok⟩
          case measure => simp [intOf]; omega
        | false =>
          have hbad : Hid (diskPathB s = false) := by
            unfold Hid; rw [Hq.out, hrl.out, Hst.out, hpc]; rfl
          clear hb3 c0 hrl Hst hpc HBw HPx
          go_wp2_with fail
          go_ret
          exact ⟨ret_bool hbad.out.symm, bot HB.out HB3.out⟩
      · have hkI : ¬ (k : Int) < (N : Int) := by omega
        have hok : Hid (diskPathB s = true) := by
          unfold Hid; rw [Hq.out, hrl.out, List.drop_eq_nil_of_le (by rw [Hln.out]; omega)]; rfl
        clear hrl
        go_wp2_with fail
        go_ret
        exact ⟨ret_bool hok.out.symm, bot HB.out HBw.out⟩
end Go.Proofs.YtkpbpnecmfadlaaGreatDoor
set_option autoImplicit false
set_option relaxedAutoImplicit false
set_option linter.unusedVariables false
set_option linter.unusedSimpArgs false
namespace Go.Proofs.YtkpbpnecmfadlaaGreatDoor
open Go.Rows Go.RowKit Go.Shelf

theorem extract_add {s : ByteArray} {a q : Nat} (h : a ≤ q) (hq : q < s.size) : (s.extract a (q + 1)).data.toList = (s.extract a q).data.toList ++ [s[q]] := by
  have e1 : ∀ k, (s.extract a k).data.toList = (s.data.toList.take k).drop a := fun k => by
    rw [ByteArray.data_extract, Array.toList_extract, List.extract_eq_drop_take', List.drop_take]
  have hl : q < s.data.toList.length := by rw [← size_data]; exact hq
  rw [e1, e1, List.take_add_one, List.getElem?_eq_getElem hl, Option.toList_some, List.drop_append_of_le_length (by rw [List.length_take]; omega)]
  rfl
theorem mkS_data (s : ByteArray) : mkS s.data.toList = s := by cases s; simp [mkS]
/-- the pieces of a list -/
def pcsB (L : List (List UInt8)) : Bool := L.all fun l => pieceB (mkS l)

set_option maxHeartbeats 1600000 in
set_option maxRecDepth 100000 in
theorem docPath_any (s : ByteArray) (hs : s.size ≤ 67108864) (w : World) :
    Calls Tryz.prog 14 #[.string s] w fun e w' => e = .returned (.bool (diskPathB s)) ∧ w = w' := by
  by_cases h1 : 4096 < s.size
  · have Hn : Hid (diskPathB s = false) := by unfold Hid diskPathB; rw [decide_eq_false (by omega)]; rfl
    have h1I : (4096 : Int) < s.size := by omega
    clear h1
    go_enter Tryz.func14, Tryz.ntmps14
    go_wp2_with fail
    go_ret
    exact ⟨ret_bool Hn.out.symm, rfl⟩
  have h1I : ¬ (4096 : Int) < s.size := by omega
  by_cases h2 : s.size < 2
  · have Hn : Hid (diskPathB s = false) := by
      unfold Hid diskPathB
      have hl := size_data s
      match hd : s.data.toList with
      | [] => simp
      | [c] =>
        simp only [cutS, List.all_cons]
        rw [show pieceB (mkS []) = false by decide +kernel]
        simp
      | c :: d :: t => rw [hd] at hl; simp only [List.length_cons] at hl; omega
    have h2I : (s.size : Int) < 2 := by omega
    clear h1 h2
    go_enter Tryz.func14, Tryz.ntmps14
    go_wp2_with fail
    go_ret
    exact ⟨ret_bool Hn.out.symm, rfl⟩
  have h2I : ¬ (s.size : Int) < 2 := by omega
  have h0 : 0 < s.size := by omega
  have hd := byte_at s 0 h0
  rw [List.drop_zero] at hd
  by_cases h47 : (s[0].toNat : Int) = 47
  case neg =>
    have Hn : Hid (diskPathB s = false) := by
      unfold Hid diskPathB
      rw [hd]
      have : decide (s[0] = 47) = false := decide_eq_false fun e => h47 (by rw [e]; rfl)
      simp only [this]; simp
    have hb : ((s[0].toNat : Int) != 47) = true := by simpa using h47
    clear h1 h2 hd
    go_enter Tryz.func14, Tryz.ntmps14
    go_wp2_with fail
    go_ret
    exact ⟨ret_bool Hn.out.symm, rfl⟩
  have hb : ((s[0].toNat : Int) != 47) = false := by simpa using h47
  have Hq : Hid (diskPathB s = pcsB (cutS [] (s.data.toList.drop 1))) := by
    unfold Hid diskPathB
    rw [hd]
    have h' : decide (s[0] = 47) = true := decide_eq_true (UInt8.toNat_inj.1 (by have : s[0].toNat = 47 := by omega
                                                                                 rw [this]; rfl))
    rw [decide_eq_true (p := s.size ≤ 4096) (by omega)]
    simp only [h', Bool.true_and, List.drop_succ_cons, List.drop_zero]
    rfl
  have Hpt : Hid (∀ a k W, Calls Tryz.prog 33 #[.string (s.extract a k)] W fun e w' => e = .returned (.bool (pieceB (s.extract a k))) ∧ W = w') := fun a k W => docPart_any _ (by rw [ByteArray.size_extract]; unfold maxLen; omega) W
  clear h1 h2 hd
  go_enter Tryz.func14, Tryz.ntmps14
  go_wp2_with fail
  clear h1I h2I hb h47
  go_loop [3, 4] (fun f i => ∃ a k : Nat, f = .int .i64 a ∧ i = .int .i64 k ∧ 1 ≤ k ∧ k ≤ s.size + 1 ∧ ((k ≤ s.size ∧ 1 ≤ a ∧ a ≤ k ∧ Hid (diskPathB s = pcsB (cutS (s.extract a k).data.toList (s.data.toList.drop k)))) ∨ (k = s.size + 1 ∧ Hid (diskPathB s = true)))) (fun _ i => s.size + 1 - (intOf i).toNat)
  case atStart =>
    refine ⟨1, 1, rfl, rfl, Nat.le_refl _, by omega, .inl ⟨h0, Nat.le_refl _, Nat.le_refl _, ?_⟩⟩
    unfold Hid
    rw [Hq.out, show (s.extract 1 1).data.toList = [] by rw [ByteArray.data_extract, Array.toList_extract]; simp]
  case round =>
    obtain ⟨a, k, rfl, rfl, hk1, hk2, hcase⟩ := hrel
    rcases hcase with ⟨hks, ha1, hak, hinv⟩ | ⟨hke, hyes⟩
    · have hkI : (k : Int) ≤ (s.size : Int) := by omega
      have ha0 : (0 : Int) ≤ (a : Int) := by omega
      have hakI : (a : Int) ≤ (k : Int) := by omega
      by_cases hlt : k < s.size
      · have hltI : (k : Int) < (s.size : Int) := by omega
        have hdk := byte_at s k hlt
        by_cases hc : (s[k].toNat : Int) = 47
        · have hcb : ((s[k].toNat : Int) != 47) = false := by simpa using hc
          have hck : s[k] = 47 := UInt8.toNat_inj.1 (by have : s[k].toNat = 47 := by omega
                                                        rw [this]; rfl)
          have hst : diskPathB s = (pieceB (s.extract a k) && pcsB (cutS [] (s.data.toList.drop (k + 1)))) := by
            rw [hinv.out, hdk, cutS, if_pos hck]
            show (pieceB (mkS _) && _) = _
            rw [mkS_data]
            rfl
          have Hst := Lib.hid hst
          clear hdk hinv hst hck hc Hq
          go_wp2_with fail
          refine (Hpt.out a k _).mono ?_
          rintro e w3 ⟨rfl, rfl⟩
          cases hpc : pieceB (s.extract a k) with
          | true =>
            have hok : Hid (diskPathB s = pcsB (cutS (s.extract (k + 1) (k + 1)).data.toList (s.data.toList.drop (k + 1)))) := by
              unfold Hid; rw [Hst.out, hpc, show (s.extract (k + 1) (k + 1)).data.toList = [] by rw [ByteArray.data_extract, Array.toList_extract]; simp]; rfl
            clear hpc Hst
            go_wp2_with fail
            go_round
            case rel => exact ⟨k + 1, k + 1, by go_num, by go_num, by omega, by omega, .inl ⟨by omega, by omega, by omega, hok⟩⟩
            case measure => simp [intOf]; omega
          | false =>
            have hbad : Hid (diskPathB s = false) := by unfold Hid; rw [Hst.out, hpc]; rfl
            clear hpc Hst
            go_wp2_with fail
            go_ret
            exact ⟨ret_bool hbad.out.symm, rfl⟩
        · have hcb : ((s[k].toNat : Int) != 47) = true := by simpa using hc
          have hok : Hid (diskPathB s = pcsB (cutS (s.extract a (k + 1)).data.toList (s.data.toList.drop (k + 1)))) := by
            unfold Hid
            rw [hinv.out, hdk, cutS, if_neg (fun e => hc (by rw [e]; rfl)), extract_add hak hlt]
          clear hdk hinv hc Hq
          go_wp2_with fail
          go_round
          case rel => exact ⟨a, k + 1, rfl, by go_num, by omega, by omega, .inl ⟨by omega, by omega, by omega, hok⟩⟩
          case measure => simp [intOf]; omega
      · have hltI : ¬ (k : Int) < (s.size : Int) := by omega
        have hst : diskPathB s = pieceB (s.extract a k) := by
          rw [hinv.out, List.drop_eq_nil_of_le (by rw [← size_data]; omega), cutS]
          show (pieceB (mkS _) && true) = _
          rw [mkS_data, Bool.and_true]
        have Hst := Lib.hid hst
        clear hinv hst Hq
        go_wp2_with fail
        refine (Hpt.out a k _).mono ?_
        rintro e w3 ⟨rfl, rfl⟩
        cases hpc : pieceB (s.extract a k) with
        | true =>
          have hok : Hid (diskPathB s = true) := by unfold Hid; rw [Hst.out, hpc]
          clear hpc Hst
          go_wp2_with fail
          go_round
          case rel => exact ⟨k + 1, k + 1, by go_num, by go_num, by omega, by omega, .inr ⟨by omega, hok⟩⟩
          case measure => simp [intOf]; omega
        | false =>
          have hbad : Hid (diskPathB s = false) := by unfold Hid; rw [Hst.out, hpc]
          clear hpc Hst
          go_wp2_with fail
          go_ret
          exact ⟨ret_bool hbad.out.symm, rfl⟩
    · have hkI : ¬ (k : Int) ≤ (s.size : Int) := by omega
      go_wp2_with fail
      go_ret
      exact ⟨ret_bool hyes.out.symm, rfl⟩
end Go.Proofs.YtkpbpnecmfadlaaGreatDoor
