/-
  The law WalkupDisk, walked.
-/
import Derived.Test.YtkpbpnecmfadlaaGreatDoorDiskG
import Derived.Test.YtkpbpnecmfadlaaGreatDoorDiskH
import Derived.Test.YtkpbpnecmfadlaaGreatDoorDiskX
import Derived.Test.YtkpbpnecmfadlaaGreatDoorLives13
import Derived.Test.YtkpbpnecmfadlaaGreatDoorTreeArg
set_option autoImplicit false
set_option relaxedAutoImplicit false
set_option linter.unusedVariables false
set_option linter.unusedSimpArgs false
namespace Go.Proofs.YtkpbpnecmfadlaaGreatDoor
open Go.Rows Go.RowKit Go.Shelf Go.ChangeShapes Go.WideShapes Go.ChangeAt

theorem parseR_lenD (s : ByteArray) : (parseR s).1.length ≤ s.size := by
  unfold parseR
  by_cases h0 : s = ⟨#[47]⟩
  · rw [if_pos h0]; exact Nat.zero_le _
  · rw [if_neg h0]
    rcases hp : pathOf s with _ | p
    · exact Nat.zero_le _
    · obtain ⟨_, _, h2⟩ := pathOf_spec hp
      have hj : ∀ l : List ByteArray, l.length ≤ (joined l).length := by
        intro l
        induction l with
        | nil => exact Nat.le_refl _
        | cons a t ih =>
          rw [joined, List.length_append, List.length_append, show stepB.data.toList.length = 9 by decide +kernel, List.length_cons]
          omega
      have := hj p
      rw [h2, ← size_data] at this
      exact this
theorem textB_sizeD {p : List ByteArray} : (textB p).size ≤ 25 * p.length + 1 := by
  unfold textB
  by_cases h0 : p = []
  · rw [if_pos h0]; show 1 ≤ _; omega
  · rw [if_neg h0]
    split
    · rename_i hall
      have := joined_len hall
      rw [size_data]
      simp only [List.size_toArray]
      omega
    · show 0 ≤ _; omega


set_option maxRecDepth 100000 in
theorem files_arg {H : Type} {enc : TypeId × Value → H} {w : World} {v : Value} {d : DataW H} {ps : List MemPlace} {base : Nat} {r : Reach}
    (hv : Value.okWide Tryz.prog w r base 22 v) (h : DataW.Trod enc Tryz.prog w 0 (fun _ => true) true 22 v d ps) :
    ∃ A n c xs, v = .slice A n c ∧ SlV rFile w (fun b => b < w.heap.size) xs (.slice A n c) ∧ bkL bkFile xs ≤ Rows.uptoBulk d := by
  obtain ⟨A, n, c, rfl⟩ := okWide_slice Tryz.underlying22 hv
  obtain ⟨l, hl, hbk⟩ := opensB_arg (opensB_slice (e := 37) Tryz.underlying22 (r := rFile) (by kernel_rfl) (by decide) opensB_File) h
  exact ⟨A, n, c, l, rfl, hl, hbk⟩
theorem files_small {xs : List File} {B : Nat} (h : bkL bkFile xs ≤ B) (hB : B ≤ 1048576) : xs.length ≤ 1048576 ∧ ∀ f ∈ xs, f.path.size ≤ 1048576 := by
  constructor
  · have := bkL_len (bk := bkFile) (l := xs) fun x => by unfold bkFile; omega
    omega
  · intro f hf
    have h1 : bkFile f ≤ bkL bkFile xs := bkL_mem hf
    have h2 : bkFile f = 1 + (f.path.size + 1) + 1 + (f.data.size + 1) := rfl
    omega

set_option maxHeartbeats 3200000 in
set_option maxRecDepth 100000 in
theorem onDiskNil_any (frm s : ByteArray) (w : World) (hf : frm.size ≤ 1048576) (hm : MaxL w) :
    Calls Tryz.prog 6 #[.pointer none, .string frm, .string s] w fun e w' => e = .returned (.tuple #[.string ⟨#[]⟩, .bool false]) ∧ Below w.heap.size w w' := by
  have HP := Lib.hid (parse_any frm w (by omega) hm)
  clear hm
  generalize (parseR frm).2 = ok at *
  go_enter Tryz.func6, Tryz.ntmps6
  go_wp2_with fail
  refine HP.out.mono ?_
  rintro e w1 ⟨⟨v, rfl, hv⟩, hb⟩
  have HB1 := Lib.hid hb
  obtain ⟨pA, pc, rfl, hpl, hpm⟩ := hv.val
  clear hv hb HP
  go_wp2_with fail
  go_ret2
  exact ⟨rfl, HB1.out⟩

set_option maxHeartbeats 3200000 in
set_option maxRecDepth 100000 in
theorem walkupDisk_any (A : Option Addr) (n c : Nat) (xs : List File) (frm s : ByteArray) (w : World) (ht : Tab w) (hm : MaxL w) (hx : SlV rFile w (fun b => b < w.heap.size) xs (.slice A n c)) (hxs : xs.length ≤ 1048576 ∧ ∀ f ∈ xs, f.path.size ≤ 1048576) (hf : frm.size ≤ 1048576) (hs : s.size ≤ 1048576) :
    Calls Tryz.prog 3 #[.slice A n c, .string frm, .string s] w fun e w' => e = .returned (.bool true) ∧ Below w.heap.size w w' := by
  have hn := hx.n_eq
  have hps : ∀ f ∈ xs, f.path.size ≤ 67108864 := fun f hf => by have := hxs.2 f hf; omega
  have HL := Lib.hid (diskLoad_any A n c xs w _ hm hx (by omega) hps)
  have HR : Hid (∀ W, Below w.heap.size w W → Calls Tryz.prog 5 #[.slice A n c] W fun e w' => LoadR xs W e w' ∧ Below W.heap.size W w') := fun W hW => docLoad_any A n c xs W _ (hx.belowSize hW) (by omega) hps
  have Hnil : Hid (∀ W, Below w.heap.size w W → Calls Tryz.prog 6 #[.pointer none, .string frm, .string s] W fun e w' => e = .returned (.tuple #[.string ⟨#[]⟩, .bool false]) ∧ Below W.heap.size W w') := fun W hW => onDiskNil_any frm s W hf (hm.below hW)
  have Hlv : Hid (∀ W, Below w.heap.size w W → Calls Tryz.prog 7 #[] W fun e w' => e = .returned (.bool true) ∧ Below W.heap.size W w') := fun W hW => lives13_any W (tab_below ht hW)
  have hlen : (parseR frm).1.length ≤ 1048577 := by have := parseR_lenD frm; omega
  have htz : ∀ q, (textB ((parseR frm).1.take q ++ [s])).size ≤ 67108864 := fun q => by
    have := textB_sizeD (p := (parseR frm).1.take q ++ [s])
    rw [List.length_append, List.length_take, List.length_singleton] at this
    omega
  have Hon : Hid (∀ (d B : Nat) (rv zv : Value) W, Below w.heap.size w W → W.cell? ⟨d, 0, none⟩ = some (.map (some B)) → d < W.heap.size → ThingsM W B xs → Calls Tryz.prog 6 #[.pointer (some ⟨d, 0, none⟩), .string frm, .string s] W fun e w' => e = .returned (.tuple #[.string (onDisk (kindF xs) frm s).1, .bool (onDisk (kindF xs) frm s).2]) ∧ Below W.heap.size W w') :=
    fun d B rv zv W hW h1 h2 h3 => onDisk_any d B rv zv xs frm s W hf hs (hm.below hW) hlen htz h1 h2 h3
  have Hdn : Hid (∀ (d : Nat) (D : Option Addr) (dn dc : Nat) (rv zv : Value) (M : List File) W, W.heap[d]? = some (.cells #[.slice D dn dc, rv, zv] 51 (0, 0)) → SlV rFile W (fun b => b < W.heap.size) M (.slice D dn dc) → List.Perm M xs → (pathsF xs).Nodup →
      Calls Tryz.prog 8 #[.pointer (some ⟨d, 0, none⟩), .string frm, .string s] W fun e w' => e = .returned (.tuple #[.string (onDisk (kindF xs) frm s).1, .bool (onDisk (kindF xs) frm s).2]) ∧ Below W.heap.size W w') :=
    fun d D dn dc rv zv M W h1 h2 h3 h4 => by
      have := docOnDisk_any d D dn dc rv zv _ M frm s W hf hs hlen htz h1 h2
      rwa [show kindF M = kindF xs from funext fun p => kindF_perm h4 h3 p] at this
  obtain ⟨R, hR⟩ : ∃ R, R = onDisk (kindF xs) frm s := ⟨_, rfl⟩
  rw [← hR] at Hon Hdn
  clear hx hm ht hn hps hlen htz hxs hR
  go_enter Tryz.func3, Tryz.ntmps3
  go_wp2_with fail
  refine HL.out.mono ?_
  rintro e w1 ⟨hl1, hb1⟩
  have HB1 := Lib.hid hb1
  rcases hl1 with ⟨hlb, rfl⟩ | ⟨hlb, d, B, rv, zv, rfl, hd1, hM1⟩
  · clear hb1 HL Hon Hdn
    go_wp2_with fail
    refine (HR.out _ HB1.out).mono ?_
    rintro e w2 ⟨hl2, hb2⟩
    have HB2 := Lib.hid (bot HB1.out hb2)
    rcases hl2 with ⟨_, rfl⟩ | ⟨hlb2, _⟩
    case inr => rw [hlb] at hlb2; cases hlb2
    clear hb2 HB1 HR
    go_wp2_with fail
    refine (Hnil.out _ HB2.out).mono ?_
    rintro e w3 ⟨rfl, hb3⟩
    have HB3 := Lib.hid (bot HB2.out hb3)
    clear hb3 HB2 Hnil
    go_wp2_with fail
    refine (Hlv.out _ HB3.out).mono ?_
    rintro e w4 ⟨rfl, hb4⟩
    have HB4 := Lib.hid (bot HB3.out hb4)
    clear hb4 HB3 Hlv
    go_wp2_with fail
    go_ret
    exact ⟨rfl, HB4.out⟩
  · have HD1 := Lib.hid hd1
    have HM1 := Lib.hid hM1
    clear hb1 HL Hnil hd1 hM1
    go_wp2_with fail
    refine (HR.out _ HB1.out).mono ?_
    rintro e w2 ⟨hl2, hb2⟩
    have HB2 := Lib.hid (bot HB1.out hb2)
    rcases hl2 with ⟨hlb2, _⟩ | ⟨_, d2, D, dn, dc, M, rfl, hd2, hv2, hp2, hn2⟩
    · rw [hlb] at hlb2; cases hlb2
    have hdl : d < w1.heap.size := (Array.getElem?_eq_some_iff.1 HD1.out).1
    have HC := Lib.hid (Hon.out d B rv zv w2 HB2.out (cell_of_row _ _ 0 _ _ _ ((hb2.block d hdl).trans HD1.out)) (Nat.lt_of_lt_of_le hdl hb2.size) (HM1.out.keep hb2))
    have hdl2 : d2 < w2.heap.size := (Array.getElem?_eq_some_iff.1 hd2).1
    have HC2 : Hid (∀ W, Below w2.heap.size w2 W → Calls Tryz.prog 8 #[.pointer (some ⟨d2, 0, none⟩), .string frm, .string s] W fun e w' => e = .returned (.tuple #[.string R.1, .bool R.2]) ∧ Below W.heap.size W w') := fun W hW => Hdn.out d2 D dn dc _ _ M W ((hW.block d2 hdl2).trans hd2) ((hv2.belowSize hW).more fun b hb hl => hl) hp2 hn2
    clear hb2 HB1 HR Hon Hdn hd2 hv2 hp2 hn2 HD1 HM1
    obtain ⟨a, z⟩ := R
    go_wp2_with fail
    refine HC.out.mono ?_
    rintro e w3 ⟨rfl, hb3⟩
    have HC3 := Lib.hid (HC2.out _ hb3)
    have HB3 := Lib.hid (bot HB2.out hb3)
    clear hb3 HB2 HC HC2
    go_wp2_with fail
    refine HC3.out.mono ?_
    rintro e w4 ⟨rfl, hb4⟩
    have HB4 := Lib.hid (bot HB3.out hb4)
    clear hb4 HB3 HC3
    have hab : (a.toList == a.toList) = true := by simp
    go_wp2_with fail
    refine (Hlv.out _ HB4.out).mono ?_
    rintro e w5 ⟨rfl, hb5⟩
    have HB5 := Lib.hid (bot HB4.out hb5)
    clear hb5 HB4 Hlv
    go_wp2_with fail
    go_ret
    exact ⟨rfl, HB5.out⟩
end Go.Proofs.YtkpbpnecmfadlaaGreatDoor
