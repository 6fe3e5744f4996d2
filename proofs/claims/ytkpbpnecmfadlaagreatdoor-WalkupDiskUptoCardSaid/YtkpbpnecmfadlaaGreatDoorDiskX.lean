/-
  A lookup on a disk: the document's OnDisk, walked.
-/
import Derived.Test.YtkpbpnecmfadlaaGreatDoorDiskO
import Derived.Test.YtkpbpnecmfadlaaGreatDoorParseR
set_option autoImplicit false
set_option relaxedAutoImplicit false
set_option linter.unusedVariables false
set_option linter.unusedSimpArgs false
namespace Go.Proofs.YtkpbpnecmfadlaaGreatDoor
open Go.Rows Go.RowKit Go.Shelf

set_option maxHeartbeats 3200000 in
set_option maxRecDepth 100000 in
theorem docOnDisk_any (d : Nat) (A : Option Addr) (dn dc : Nat) (rv zv : Value) (S : Nat → Prop) (l : List File) (frm s : ByteArray) (w : World) (hf : frm.size ≤ 1048576) (hs : s.size ≤ 1048576) 
    (hlen : (parseR frm).1.length ≤ 1048577) (htz : ∀ q, (textB ((parseR frm).1.take q ++ [s])).size ≤ 67108864)
    (hd : w.heap[d]? = some (.cells #[.slice A dn dc, rv, zv] 51 (0, 0))) (hl : SlV rFile w S l (.slice A dn dc)) :
    Calls Tryz.prog 8 #[.pointer (some ⟨d, 0, none⟩), .string frm, .string s] w fun e w' => e = .returned (.tuple #[.string (onDisk (kindF l) frm s).1, .bool (onDisk (kindF l) frm s).2]) ∧ Below w.heap.size w w' := by
  have HP := Lib.hid (refParse_any frm w (by omega))
  have HN : Hid (∀ W, Calls Tryz.prog 26 #[.string s] W fun e w' => e = .returned (.bool (nameB s)) ∧ Below W.heap.size W w') := fun W => (refName_any s (by unfold maxLen; omega) W).mono fun e w' h => ⟨h.1, h.2 ▸ Below.refl _ _⟩
  have HK : Hid (∀ W p, Below w.heap.size w W → p.size ≤ maxLen → Calls Tryz.prog 17 #[.pointer (some ⟨d, 0, none⟩), .string p] W fun e w' => e = .returned (.int .i64 (kindF l p)) ∧ Below W.heap.size W w') := fun W p hW hp =>
    (docKind_any d A dn dc rv zv l p W S ((hW.block _ (Array.getElem?_eq_some_iff.1 hd).1).trans hd) (hl.belowSize hW)).mono fun e w' h => ⟨h.1, h.2 ▸ Below.refl _ _⟩
  obtain ⟨R, hR⟩ : ∃ R, R = onDisk (kindF l) frm s := ⟨_, rfl⟩
  rw [← hR]
  unfold onDisk at hR
  have HR := Lib.hid hR
  have Htz := Lib.hid htz
  clear hR hd hl htz
  obtain ⟨path, hpath⟩ : ∃ path, path = (parseR frm).1 := ⟨_, rfl⟩
  obtain ⟨ok, hok⟩ : ∃ ok, ok = (parseR frm).2 := ⟨_, rfl⟩
  rw [← hpath, ← hok] at HR HP
  rw [← hpath] at Htz hlen
  clear hpath hok
  go_enter Tryz.func8, Tryz.ntmps8
  go_wp2_with fail
  refine HP.out.mono ?_
  rintro e w1 ⟨⟨v, rfl, hv⟩, hb⟩
  have HB1 := Lib.hid hb
  obtain ⟨pA, pc, rfl, hpl, hpm⟩ := hv.val
  have HV := Lib.hid hv
  clear hv hb HP
  go_wp2_with fail
  refine (HN.out _).mono ?_
  rintro e w2 ⟨rfl, hb2⟩
  have HB2 := Lib.hid (bot HB1.out hb2)
  have HV2 := Lib.hid (HV.out.belowSize hb2)
  clear hb2 HB1 HV HN
  cases ok with
  | false =>
    have hr : Hid (R = (⟨#[]⟩, false)) := by unfold Hid; rw [HR.out, Bool.false_and]; rfl
    clear HR
    go_wp2_with fail
    go_ret2
    exact ⟨ret_strB hr.out, HB2.out⟩
  | true =>
    cases hnb : nameB s with
    | false =>
      have hr : Hid (R = (⟨#[]⟩, false)) := by unfold Hid; rw [HR.out, hnb]; rfl
      clear HR hnb
      go_wp2_with fail
      go_ret2
      exact ⟨ret_strB hr.out, HB2.out⟩
    | true =>
    have HR1 : Hid (R = onDown (kindF l) path s (path.length + 1)) := by unfold Hid; rw [HR.out, hnb]; rfl
    clear HR hnb
    obtain ⟨n, hn⟩ : ∃ n, n = path.length := ⟨_, rfl⟩
    rw [← hn] at HR1 HV2 hlen hpl ⊢
    have Hn := Lib.hid hn
    clear hn
    unfold maxLen at hpm
    go_wp2_with fail
    go_loopw [11] (fun i wr => ((i = .int .i64 (-1) ∧ Hid (R = (⟨#[]⟩, false))) ∨ ∃ q : Nat, q ≤ n ∧ i = .int .i64 q ∧ Hid (R = onDown (kindF l) path s (q + 1))) ∧ Hid (Below w2.heap.size w2 wr)) (fun i _ => (intOf i + 1).toNat)
    case atStart => exact ⟨.inr ⟨n, Nat.le_refl _, rfl, HR1⟩, Below.refl _ _⟩
    case round =>
      obtain ⟨hor, hbel⟩ := hrel
      rcases hor with ⟨rfl, He⟩ | ⟨q, hq, rfl, HRq⟩
      · go_wp2_with fail
        go_ret2
        exact ⟨ret_strB He.out, bot HB2.out hbel.out⟩
      · have hq0 : (0 : Int) ≤ (q : Int) := by omega
        have hqc : (q : Int) ≤ (pc : Int) := by omega
        go_wp2_with fail
        refine (refJoined_any pA q pc (path.take q) s wr _ (by unfold maxLen; omega) (by rw [List.length_take]; omega) (SlV.take (HV2.out.belowSize hbel.out) (by rw [← Hn.out]; exact hq))).mono ?_
        rintro e w3 ⟨v, rfl, hv3, hb3⟩
        obtain ⟨vA, vc, rfl, _, _⟩ := hv3.val
        have hv3' := hv3.more (S' := fun b => b < w3.heap.size) fun b _ h => h
        have HT := Lib.hid ((refText_any _ _ _ (path.take q ++ [s]) w3 _ (by rw [List.length_append, List.length_take]; simp; omega) hv3').mono fun e w' h => (⟨h.1, h.2 ▸ Below.refl _ _⟩ : e = .returned (.string (textB (path.take q ++ [s]))) ∧ Below w3.heap.size w3 w'))
        have htq := Htz.out q
        have hst : onDown (kindF l) path s (q + 1) = if kindF l (textB (path.take q ++ [s])) = 2 ∧ kindF l (textB (path.take q ++ [s]) ++ pkgW) = 1 then (textB (path.take q ++ [s]), true) else onDown (kindF l) path s q := rfl
        have HRs := Lib.hid (HRq.out.trans hst)
        have HB3 := Lib.hid (bot hbel.out hb3)
        clear hv3 hv3' hb3 hbel HRq hst
        generalize textB (path.take q ++ [s]) = T at *
        generalize (path.take q ++ [s]).length = tn at *
        go_wp2_with fail
        refine HT.out.mono ?_
        rintro e w4 ⟨rfl, hb4⟩
        have HB4 := Lib.hid (bot HB3.out hb4)
        have E1 : ∀ W : World, (Op.stringOp .add T ⟨#[47, 112, 97, 99, 107, 97, 103, 101]⟩).run Tryz.prog W = .ok (.string (T ++ pkgW)) W := fun W => run_string_add_sum W T pkgW (by rw [show pkgW.size = 8 from rfl]; omega)
        clear hb4 HB3 HT
        go_wp2_with fail
        have hwm : IntKind.i64.wrap ((q : Int) - 1) = (q : Int) - 1 := IntWalk.i64_in _ ⟨by omega, by omega⟩
        refine (HK.out _ T (bot HB2.out HB4.out) (by unfold maxLen; omega)).mono ?_
        rintro e w5 ⟨rfl, hb5⟩
        have HB5 := Lib.hid (bot HB4.out hb5)
        clear hb5 HB4
        have hnext : Hid (R = onDown (kindF l) path s q) → ((Value.int .i64 ((q : Int) - 1) = .int .i64 (-1) ∧ Hid (R = (⟨#[]⟩, false))) ∨ ∃ q' : Nat, q' ≤ n ∧ Value.int .i64 ((q : Int) - 1) = .int .i64 q' ∧ Hid (R = onDown (kindF l) path s (q' + 1))) := fun He => by
          by_cases hq00 : q = 0
          · exact .inl ⟨by simp [hq00], by unfold Hid; rw [He.out, hq00]; rfl⟩
          · obtain ⟨q', rfl⟩ : ∃ q', q = q' + 1 := ⟨q - 1, by omega⟩
            exact .inr ⟨q', by omega, by congr 1; omega, He⟩
        have Hnext := Lib.hid hnext
        clear hnext
        go_wp2_with fail
        refine (HK.out _ (T ++ pkgW) (bot HB2.out HB5.out) (by rw [ByteArray.size_append, show pkgW.size = 8 from rfl]; unfold maxLen; omega)).mono ?_
        rintro e w6 ⟨rfl, hb6⟩
        have HB6 := Lib.hid (bot HB5.out hb6)
        clear hb6 HB5
        by_cases h2 : kindF l T = 2
        case neg =>
          have h2b : (kindF l T == 2) = false := by simpa using h2
          have He : Hid (R = onDown (kindF l) path s q) := by unfold Hid; rw [HRs.out, if_neg (fun h => h2 h.1)]
          have hx := Hnext.out He
          clear h2 HRs
          go_wp2_with fail
          go_roundw
          case rel => exact ⟨hx, HB6⟩
          case measure => simp [intOf]
        have h2b : (kindF l T == 2) = true := by simpa using h2
        by_cases h3 : kindF l (T ++ pkgW) = 1
        · have h3b : (kindF l (T ++ pkgW) == 1) = true := by simpa using h3
          have He : Hid (R = (T, true)) := by unfold Hid; rw [HRs.out, if_pos ⟨h2, h3⟩]
          clear h2 h3 HRs
          go_wp2_with fail
          go_ret2
          exact ⟨ret_strB He.out, bot HB2.out HB6.out⟩
        · have h3b : (kindF l (T ++ pkgW) == 1) = false := by simpa using h3
          have He : Hid (R = onDown (kindF l) path s q) := by unfold Hid; rw [HRs.out, if_neg (fun h => h3 h.2)]
          have hx := Hnext.out He
          clear h2 h3 HRs
          go_wp2_with fail
          go_roundw
          case rel => exact ⟨hx, HB6⟩
          case measure => simp [intOf]
end Go.Proofs.YtkpbpnecmfadlaaGreatDoor
