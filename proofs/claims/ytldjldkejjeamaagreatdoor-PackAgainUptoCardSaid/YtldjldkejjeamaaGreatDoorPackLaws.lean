/-
  pack.Print and the document's Print: a package's text; the package whose text is fixed: walked.
  The document's reader of packages (halyardref05.Parse), walked.
  The laws of packages (PackMay, PackWrites, PackReads, PackTexts, PackRanges), walked. (Printed by gen_pack.py.)
-/
import Derived.Test.YtldjldkejjeamaaGreatDoorPParse
import Derived.Test.YtldjldkejjeamaaGreatDoorRefLists
set_option autoImplicit false
set_option relaxedAutoImplicit false
set_option linter.unusedVariables false
set_option linter.unusedSimpArgs false
namespace Go.Proofs.YtldjldkejjeamaaGreatDoor
open Go.Rows Go.RowKit Go.Shelf Go.Sort

/-- what is told of a package -/
noncomputable def packP (p : Pack) : ByteArray × Int := if packB p = true then (packText p, 0) else (⟨#[]⟩, 24)
theorem packB_parts {p : Pack} (h : packB p = true) : p.name.size ≤ 16 ∧ listB p.deps = true ∧ listB p.peers = true ∧ listB p.opts = true := by
  unfold packB at h
  simp only [Bool.and_eq_true, decide_eq_true_eq] at h
  obtain ⟨hn, hv, hd, hp, ho, _, _⟩ := h
  exact ⟨nameB_size hn, hd, hp, ho⟩

set_option maxHeartbeats 1600000 in
set_option maxRecDepth 100000 in
theorem packPrint_any (p : Pack) (u : Value) (w : World) (S : Nat → Prop) (ht : Tab w) (hv : PackV w S p u) :
    Calls Tryz.prog 19 #[u] w fun e w' => e = .returned (.tuple #[.string (packP p).1, .int .i64 (packP p).2]) ∧ Below w.heap.size w w' := by
  have HM := Lib.hid (fun W (hW : Below w.heap.size w W) => packMay_any p u W S (tab_below ht hW) (hv.keep hW))
  have HT := Lib.hid (fun (hB : packB p = true) W (hW : Below w.heap.size w W) => packText_any p u W S (tab_below ht hW) (packB_parts hB).1 (packB_parts hB).2.1 (packB_parts hB).2.2.1 (packB_parts hB).2.2.2 (hv.keep hW))
  obtain ⟨A1, n1, c1, A2, n2, c2, A3, n3, c3, rfl, _, _, _, _⟩ := hv
  obtain ⟨R, hR⟩ : ∃ R, R = packP p := ⟨_, rfl⟩
  have Hno : Hid (packB p = false → R = (⟨#[]⟩, 24)) := fun h => by rw [hR]; unfold packP; rw [if_neg (by rw [h]; decide)]
  have Hyes : Hid (packB p = true → R = (packText p, 0)) := fun h => by rw [hR]; unfold packP; rw [if_pos h]
  rw [← hR]
  clear hR ht
  generalize packB p = b at *
  generalize packText p = s at *
  generalize p.name = nm at *
  generalize p.ver.major = x1 at *
  generalize p.ver.minor = x2 at *
  generalize p.ver.patch = x3 at *
  go_enter Tryz.func19, Tryz.ntmps19
  go_wp2_with fail
  obtain ⟨w0, hw0⟩ : ∃ w0, w0 = w.alloc (.cells #[.string nm, .int .i64 x1, .int .i64 x2, .int .i64 x3, .slice A1 n1 c1, .slice A2 n2 c2, .slice A3 n3 c3] 26) := ⟨_, rfl⟩
  have hr0 : w0.heap[w.heap.size]? = some (.cells #[.string nm, .int .i64 x1, .int .i64 x2, .int .i64 x3, .slice A1 n1 c1, .slice A2 n2 c2, .slice A3 n3 c3] 26 (0, 0)) := by rw [hw0]; exact heap_alloc_new w _
  have HB0 : Hid (Below w.heap.size w w0) := by unfold Hid; rw [hw0]; exact bal (Below.refl _ _) _
  have hz0 : w.heap.size < w0.heap.size := (Array.getElem?_eq_some_iff.1 hr0).1
  rw [← hw0]
  clear hw0
  refine (HM.out w0 HB0.out).mono ?_
  rintro e w1 ⟨rfl, hb1⟩
  have HB1 := Lib.hid (bot HB0.out hb1)
  obtain ⟨⟨a0, a1, a2, a3, a4, a5, a6⟩, _⟩ := row7 ((hb1.block _ hz0).trans hr0)
  clear hb1 HB0 hr0 hz0 HM
  cases b with
  | false =>
    have hq := Hno.out rfl
    subst hq
    clear Hno Hyes HT
    go_wp2_with fail
    go_ret2
    exact ⟨rfl, HB1.out⟩
  | true =>
    have hq := Hyes.out rfl
    subst hq
    have HT' := Lib.hid (HT.out rfl)
    clear Hno Hyes HT
    go_wp2_with fail
    refine (HT'.out w1 HB1.out).mono ?_
    rintro e w2 ⟨rfl, hb2⟩
    go_wp2_with fail
    go_ret2
    exact ⟨rfl, bot HB1.out hb2⟩
set_option maxHeartbeats 1600000 in
set_option maxRecDepth 100000 in
theorem refPackPrint_any (p : Pack) (u : Value) (w : World) (S : Nat → Prop) (hv : PackV w S p u) :
    Calls Tryz.prog 20 #[u] w fun e w' => e = .returned (.tuple #[.string (packP p).1, .int .i64 (packP p).2]) ∧ Below w.heap.size w w' := by
  have HM := Lib.hid (fun W (hW : Below w.heap.size w W) => refPackMay_any p u W S (hv.keep hW))
  have HT := Lib.hid (fun (hB : packB p = true) W (hW : Below w.heap.size w W) => refPackText_any p u W S (packB_parts hB).1 (packB_parts hB).2.1 (packB_parts hB).2.2.1 (packB_parts hB).2.2.2 (hv.keep hW))
  obtain ⟨A1, n1, c1, A2, n2, c2, A3, n3, c3, rfl, _, _, _, _⟩ := hv
  obtain ⟨R, hR⟩ : ∃ R, R = packP p := ⟨_, rfl⟩
  have Hno : Hid (packB p = false → R = (⟨#[]⟩, 24)) := fun h => by rw [hR]; unfold packP; rw [if_neg (by rw [h]; decide)]
  have Hyes : Hid (packB p = true → R = (packText p, 0)) := fun h => by rw [hR]; unfold packP; rw [if_pos h]
  rw [← hR]
  clear hR
  generalize packB p = b at *
  generalize packText p = s at *
  generalize p.name = nm at *
  generalize p.ver.major = x1 at *
  generalize p.ver.minor = x2 at *
  generalize p.ver.patch = x3 at *
  go_enter Tryz.func20, Tryz.ntmps20
  go_wp2_with fail
  obtain ⟨w0, hw0⟩ : ∃ w0, w0 = w.alloc (.cells #[.string nm, .int .i64 x1, .int .i64 x2, .int .i64 x3, .slice A1 n1 c1, .slice A2 n2 c2, .slice A3 n3 c3] 26) := ⟨_, rfl⟩
  have hr0 : w0.heap[w.heap.size]? = some (.cells #[.string nm, .int .i64 x1, .int .i64 x2, .int .i64 x3, .slice A1 n1 c1, .slice A2 n2 c2, .slice A3 n3 c3] 26 (0, 0)) := by rw [hw0]; exact heap_alloc_new w _
  have HB0 : Hid (Below w.heap.size w w0) := by unfold Hid; rw [hw0]; exact bal (Below.refl _ _) _
  have hz0 : w.heap.size < w0.heap.size := (Array.getElem?_eq_some_iff.1 hr0).1
  rw [← hw0]
  clear hw0
  refine (HM.out w0 HB0.out).mono ?_
  rintro e w1 ⟨rfl, hb1⟩
  have HB1 := Lib.hid (bot HB0.out hb1)
  obtain ⟨⟨a0, a1, a2, a3, a4, a5, a6⟩, _⟩ := row7 ((hb1.block _ hz0).trans hr0)
  clear hb1 HB0 hr0 hz0 HM
  cases b with
  | false =>
    have hq := Hno.out rfl
    subst hq
    clear Hno Hyes HT
    go_wp2_with fail
    go_ret2
    exact ⟨rfl, HB1.out⟩
  | true =>
    have hq := Hyes.out rfl
    subst hq
    have HT' := Lib.hid (HT.out rfl)
    clear Hno Hyes HT
    go_wp2_with fail
    refine (HT'.out w1 HB1.out).mono ?_
    rintro e w2 ⟨rfl, hb2⟩
    go_wp2_with fail
    go_ret2
    exact ⟨rfl, bot HB1.out hb2⟩

/-! ### the package whose text is fixed -/
theorem k_packP : packP kPack = (kTold, 0) := by unfold packP; rw [if_pos k_ok, k_told]
set_option maxHeartbeats 1600000 in
set_option maxRecDepth 100000 in
theorem known05_any (w : World) (hv : Vok w) : Calls Tryz.prog 18 #[] w fun e w' => e = .returned (.bool true) ∧ Below w.heap.size w w' := by
  have HP := Lib.hid (packParseO_any kText w hv (by decide))
  rw [k_readQ] at HP
  simp only at HP
  unfold kText at HP
  have HPr : Hid (∀ W S u, Below w.heap.size w W → PackV W S kPack u → Calls Tryz.prog 19 #[u] W fun e w' => e = .returned (.tuple #[.string ⟨#[112, 97, 99, 107, 97, 103, 101, 32, 97, 32, 49, 46, 50, 46, 48, 10, 110, 101, 101, 100, 115, 32, 98, 32, 62, 61, 49, 46, 48, 46, 48, 32, 60, 61, 49, 46, 57, 57, 57, 46, 57, 57, 57, 10]⟩, .int .i64 0]) ∧ Below W.heap.size W w') := fun W S u hW hu => by
    have := packPrint_any kPack u W S (hv.below hW).tab hu
    rw [k_packP] at this
    exact this
  have HM : Hid (∀ W S u, Below w.heap.size w W → PackV W S kPack u → Calls Tryz.prog 14 #[u] W fun e w' => e = .returned (.bool true) ∧ Below W.heap.size W w') := fun W S u hW hu => by
    have := packMay_any kPack u W S (hv.below hW).tab hu
    rw [k_ok] at this
    exact this
  have HS : Hid (∀ W S u, PackV W S kPack u → Calls Tryz.prog 16 #[u, u] W fun e w' => e = .returned (.bool true) ∧ Below W.heap.size W w') := fun W S u hu => by
    have := packSame_any kPack kPack u u W S S hu hu
    rw [eqB_true rfl] at this
    exact this
  clear hv
  go_enter Tryz.func18, Tryz.ntmps18
  go_wp2_with fail
  refine HP.out.mono ?_
  rintro e w1 ⟨u, rfl, hu, hb1⟩
  have hpv := hu.packV
  obtain ⟨A1, n1, c1, A2, n2, c2, A3, n3, c3, rfl, _, h1, h2, h3⟩ := id hpv
  have e1 : n1 = 1 := h1.n_eq
  have e2 : n2 = 0 := h2.n_eq
  have e3 : n3 = 0 := h3.n_eq
  subst e1 e2 e3
  have Hpv := Lib.hid hpv
  have HB1 := Lib.hid hb1
  clear hu hb1 hpv h1 h2 h3 HP
  rw [show kPack.name = ⟨#[97]⟩ from rfl, show kPack.ver.major = 1 from rfl, show kPack.ver.minor = 2 from rfl, show kPack.ver.patch = 0 from rfl] at Hpv ⊢
  go_upto_region 2 with (fail)
  obtain ⟨w2, hw2⟩ : ∃ w2, w2 = w1.alloc (.cells #[.string ⟨#[97]⟩, .int .i64 1, .int .i64 2, .int .i64 0, .slice A1 1 c1, .slice A2 0 c2, .slice A3 0 c3] 26) := ⟨_, rfl⟩
  have hr2 : w2.heap[w1.heap.size]? = some (.cells #[.string ⟨#[97]⟩, .int .i64 1, .int .i64 2, .int .i64 0, .slice A1 1 c1, .slice A2 0 c2, .slice A3 0 c3] 26 (0, 0)) := by rw [hw2]; exact heap_alloc_new w1 _
  have hb2 : Below w1.heap.size w1 w2 := by rw [hw2]; exact bal (Below.refl _ _) _
  have HB2 := Lib.hid (bot HB1.out hb2)
  have Hpv2 := Lib.hid (Hpv.out.keep hb2)
  obtain ⟨⟨a0, a1, a2, a3, a4, a5, a6⟩, _⟩ := row7 hr2
  have hz2 : w1.heap.size < w2.heap.size := (Array.getElem?_eq_some_iff.1 hr2).1
  rw [← hw2]
  clear hw2 hb2 Hpv HB1
  go_wp2_with fail
  refine (HPr.out w2 _ _ HB2.out Hpv2.out).mono ?_
  rintro e w3 ⟨rfl, hb3⟩
  have HB3 := Lib.hid (bot HB2.out hb3)
  have Hpv3 := Lib.hid (Hpv2.out.keep hb3)
  have hr3 := (hb3.block _ hz2).trans hr2
  obtain ⟨⟨b0, b1, b2, b3, b4, b5, b6⟩, _⟩ := row7 hr3
  have hz3 : w1.heap.size < w3.heap.size := (Array.getElem?_eq_some_iff.1 hr3).1
  clear hb3 a0 a1 a2 a3 a4 a5 a6 hr2 hz2 Hpv2 HB2 HPr
  go_wp2_with fail
  refine (HM.out w3 _ _ HB3.out Hpv3.out).mono ?_
  rintro e w4 ⟨rfl, hb4⟩
  have HB4 := Lib.hid (bot HB3.out hb4)
  have Hpv4 := Lib.hid (Hpv3.out.keep hb4)
  have hr4 := (hb4.block _ hz3).trans hr3
  obtain ⟨⟨a0, a1, a2, a3, a4, a5, a6⟩, _⟩ := row7 hr4
  clear hb4 b0 b1 b2 b3 b4 b5 b6 hr3 hz3 hr4 Hpv3 HB3 HM
  go_wp2_with fail
  refine (HS.out w4 _ _ Hpv4.out).mono ?_
  rintro e w5 ⟨rfl, hb5⟩
  go_wp2_with fail
  go_ret
  exact ⟨rfl, bot HB4.out hb5⟩
end Go.Proofs.YtldjldkejjeamaaGreatDoor
set_option autoImplicit false
set_option relaxedAutoImplicit false
set_option linter.unusedVariables false
set_option linter.unusedSimpArgs false
namespace Go.Proofs.YtldjldkejjeamaaGreatDoor
open Go.Rows Go.RowKit Go.Shelf Go.Sort

theorem packV_zero (w : World) (S : Nat → Prop) : PackV w S packZ (.agg #[.string ⟨#[]⟩, .int .i64 0, .int .i64 0, .int .i64 0, .slice none 0 0, .slice none 0 0, .slice none 0 0]) :=
  ⟨_, _, _, _, _, _, _, _, _, rfl, by decide, SlV.nil_ _ _ _, SlV.nil_ _ _ _, SlV.nil_ _ _ _⟩

theorem set7_other {W : World} {b k : Nat} (h : k ≠ b) (a0 a1 a2 a3 a4 a5 a6 : Value) :
    (((((((W.setCell ⟨b, 0, none⟩ a0).setCell ⟨b, 1, none⟩ a1).setCell ⟨b, 2, none⟩ a2).setCell ⟨b, 3, none⟩ a3).setCell ⟨b, 4, none⟩ a4).setCell ⟨b, 5, none⟩ a5).setCell ⟨b, 6, none⟩ a6).heap[k]? = W.heap[k]? :=
  (Below.heap_setCell _ _ _ k h).trans ((Below.heap_setCell _ _ _ k h).trans ((Below.heap_setCell _ _ _ k h).trans ((Below.heap_setCell _ _ _ k h).trans ((Below.heap_setCell _ _ _ k h).trans ((Below.heap_setCell _ _ _ k h).trans (Below.heap_setCell _ _ _ k h))))))
theorem packV_set7 {W : World} {p : Pack} {u : Value} {B b : Nat} (h : PackV W (fun k => B ≤ k) p u) (hb : b < B) (a0 a1 a2 a3 a4 a5 a6 : Value) :
    PackV (((((((W.setCell ⟨b, 0, none⟩ a0).setCell ⟨b, 1, none⟩ a1).setCell ⟨b, 2, none⟩ a2).setCell ⟨b, 3, none⟩ a3).setCell ⟨b, 4, none⟩ a4).setCell ⟨b, 5, none⟩ a5).setCell ⟨b, 6, none⟩ a6) (fun k => b ≤ k) p u := by
  obtain ⟨A, n, c, A', n', c', A'', n'', c'', h1, h2, h3, h4, h5⟩ := h
  have key : ∀ k, B ≤ k → k < W.heap.size → (((((((W.setCell ⟨b, 0, none⟩ a0).setCell ⟨b, 1, none⟩ a1).setCell ⟨b, 2, none⟩ a2).setCell ⟨b, 3, none⟩ a3).setCell ⟨b, 4, none⟩ a4).setCell ⟨b, 5, none⟩ a5).setCell ⟨b, 6, none⟩ a6).heap[k]? = W.heap[k]? := fun k hk _ => set7_other (by omega) _ _ _ _ _ _ _
  exact ⟨A, n, c, A', n', c', A'', n'', c'', h1, h2, (h3.keep key).more (fun k hk _ => by omega), (h4.keep key).more (fun k hk _ => by omega), (h5.keep key).more (fun k hk _ => by omega)⟩

set_option maxHeartbeats 8000000 in
set_option maxRecDepth 100000 in
theorem refPackParse_any (t : ByteArray) (w : World) (ht : t.size ≤ 4611686018427387904) :
    Calls Tryz.prog 22 #[.string t] w fun e w' => ∃ u, e = .returned (.tuple #[u, .int .i64 (packQ t).2]) ∧ PackV w' (fun b => w.heap.size ≤ b) (packQ t).1 u ∧ Below w.heap.size w w' := by
  obtain ⟨L, en, hQ⟩ : ∃ L en, scanQ 4096 t = (L, en) := ⟨_, _, rfl⟩
  have hbd := scan_bounds (most := 4096) (t := t)
  rw [hQ] at hbd
  obtain ⟨hL1, hL2⟩ := hbd
  simp only at hL1 hL2
  have Hsc : Hid (∀ W, Calls Tryz.prog 51 #[.string t, .int .i64 4096] W fun e w' => ∃ v, (∃ k : Int, e = .returned (.tuple #[v, .int .i64 en, .int .i64 k])) ∧ SlV (rSlice rStr) w' (fun b => W.heap.size ≤ b) L v ∧ Below W.heap.size W w') := fun W => by
    have := refScan_any t 4096 W (by decide) ht
    rw [hQ] at this
    exact this
  have K0 : Hid (en ≠ 0 → packQ t = (packZ, en)) := fun h => packQ_bad hQ h
  have K1 : Hid (en = 0 → (∀ a b c r, L ≠ [a, b, c] :: r) → packQ t = (packZ, 22)) := fun h h2 => packQ_form (by rw [← h]; exact hQ) h2
  have K2 := Lib.hid (fun (h : en = 0) a nm vs rest (hl : L = [a, nm, vs] :: rest) => packQ_line (t := t) (a := a) (nm := nm) (vs := vs) (rest := rest) (by rw [← h, ← hl]; exact hQ))
  have HL1 := Lib.hid hL1
  have HL2 := Lib.hid hL2
  clear hL1 hL2 hQ
  generalize packQ t = R at *
  go_enter Tryz.func22, Tryz.ntmps22
  go_wp2_with fail
  obtain ⟨w0, hw0⟩ : ∃ w0, w0 = w.alloc (.cells #[.string ⟨#[]⟩, .int .i64 0, .int .i64 0, .int .i64 0, .slice none 0 0, .slice none 0 0, .slice none 0 0] 26) := ⟨_, rfl⟩
  have hr0 : w0.heap[w.heap.size]? = some (.cells #[.string ⟨#[]⟩, .int .i64 0, .int .i64 0, .int .i64 0, .slice none 0 0, .slice none 0 0, .slice none 0 0] 26 (0, 0)) := by rw [hw0]; exact heap_alloc_new w _
  have HB0 : Hid (Below w.heap.size w w0) := by unfold Hid; rw [hw0]; exact bal (Below.refl _ _) _
  have hz0 : w.heap.size < w0.heap.size := (Array.getElem?_eq_some_iff.1 hr0).1
  rw [← hw0]
  clear hw0
  have Hr0 := Lib.hid hr0
  have Hz0 := Lib.hid hz0
  clear hr0 hz0
  refine (Hsc.out w0).mono ?_
  rintro e w1 ⟨vL, ⟨kk, rfl⟩, hL, hb1⟩
  have Hr1 := Lib.hid ((hb1.block _ Hz0.out).trans Hr0.out)
  have HB1 := Lib.hid (bot HB0.out hb1)
  have hz1 : w.heap.size < w1.heap.size := Nat.lt_of_lt_of_le Hz0.out hb1.size
  have hL' := hL.more (S' := fun b => b < w1.heap.size) fun b _ h => h
  obtain ⟨AL, cL, rfl, hcl, hcm⟩ := hL'.val
  obtain ⟨n, hn⟩ : ∃ n, n = L.length := ⟨_, rfl⟩
  have hcl2 : n ≤ cL := by rw [hn]; exact hcl
  unfold maxLen at hcm
  have hn7 : n ≤ 4097 := by rw [hn]; exact HL1.out
  rw [← hn] at hL' ⊢
  clear hL hb1 HB0 Hr0 Hz0 Hsc hcl
  have HL := Lib.hid hL'
  have Hn := Lib.hid hn
  clear hL' hn
  by_cases he : en = 0
  case neg =>
    have hbe : (en != 0) = true := by simpa using he
    have hq := K0.out he
    subst hq
    obtain ⟨⟨a0, a1, a2, a3, a4, a5, a6⟩, f0, f1, f2, f3, f4, f5, f6⟩ := row7 Hr1.out
    clear he K0 K1 K2
    go_wp2_with fail
    refine ret_cells rfl rfl rfl rfl (heap_set7 Hr1.out _ _ _ _ _ _ _) Tryz.underlying26 rfl (by kernel_rfl) ⟨_, rfl, packV_zero _ _, below_set7 HB1.out (Nat.le_refl _) _ _ _ _ _ _ _⟩
  have K1' := Lib.hid (K1.out he)
  have K2' := Lib.hid (K2.out he)
  clear K0 K1 K2
  subst he
  cases L with
  | nil =>
    have hq := K1'.out (by intro a b c r e; cases e)
    subst hq
    have hn0 : n = 0 := Hn.out
    subst hn0
    obtain ⟨⟨a0, a1, a2, a3, a4, a5, a6⟩, f0, f1, f2, f3, f4, f5, f6⟩ := row7 Hr1.out
    clear K1' K2'
    go_wp2_with fail
    refine ret_cells rfl rfl rfl rfl (heap_set7 Hr1.out _ _ _ _ _ _ _) Tryz.underlying26 rfl (by kernel_rfl) ⟨_, rfl, packV_zero _ _, below_set7 HB1.out (Nat.le_refl _) _ _ _ _ _ _ _⟩
  | cons ws0 rest =>
  have hnr : n = rest.length + 1 := Hn.out
  obtain ⟨b0, o0, rfl, _, hb0⟩ := HL.out.at (by simp)
  obtain ⟨A0, cc0, c0, hs0⟩ := HL.out.row (i := 0) (x := ws0) rfl
  rw [Nat.add_zero] at c0
  have Hs0 := Lib.hid hs0
  clear hs0
  obtain ⟨m, hm⟩ : ∃ m, m = ws0.length := ⟨_, rfl⟩
  rw [← hm] at c0 Hs0
  have hn0 : ((n : Int) == 0) = false := by rw [beq_eq_false_iff_ne]; omega
  have hn1 : 0 < n := by omega
  have hnI : (0 : Int) < (n : Int) := by omega
  by_cases hm3 : m = 3
  case neg =>
    have hq := K1'.out (by rintro a b c r e; cases e; simp at hm; omega)
    subst hq
    have hbe : ((m : Int) != 3) = true := by rw [bne_iff_ne]; omega
    obtain ⟨⟨a0, a1, a2, a3, a4, a5, a6⟩, f0, f1, f2, f3, f4, f5, f6⟩ := row7 Hr1.out
    clear K1' K2' hnr hm hm3
    go_wp2_with fail
    refine ret_cells rfl rfl rfl rfl (heap_set7 Hr1.out _ _ _ _ _ _ _) Tryz.underlying26 rfl (by kernel_rfl) ⟨_, rfl, packV_zero _ _, below_set7 HB1.out (Nat.le_refl _) _ _ _ _ _ _ _⟩
  obtain ⟨a, nm, vs, rfl⟩ : ∃ a nm vs, ws0 = [a, nm, vs] := by
    match ws0, hm with
    | [], h => simp at h; omega
    | [_], h => simp at h; omega
    | [_, _], h => simp at h; omega
    | [a, nm, vs], _ => exact ⟨a, nm, vs, rfl⟩
    | _ :: _ :: _ :: _ :: _, h => simp at h; omega
  subst hm3
  clear hm
  obtain ⟨b1, o1, rfl, _, hb1⟩ := Hs0.out.at (by simp)
  obtain ⟨d0, _⟩ := Hs0.out.str (i := 0) (x := a) rfl
  obtain ⟨d1, hnz⟩ := Hs0.out.str (i := 1) (x := nm) rfl
  obtain ⟨d2, hvz⟩ := Hs0.out.str (i := 2) (x := vs) rfl
  rw [Nat.add_zero] at d0
  obtain ⟨K22, K2r⟩ := K2'.out a nm vs rest rfl
  have K22' := Lib.hid K22
  have K2r' := Lib.hid K2r
  have hvs1 : vs.size ≤ 1000000 := by
    have := (HL2.out [a, nm, vs] (by simp)).2.2
    have h1 := joinS_tail a [nm, vs]
    have h2 := joinS_tail nm [vs]
    have h3 : (joinS [vs]).size = vs.size := by
      rw [size_data, size_data]; unfold joinS; simp [mkB, Lib.join, Lib.joinTail]
    omega
  clear K2' K1' K22 K2r Hs0
  by_cases ha : a = packageW
  case neg =>
    have hq := K22'.out ha
    subst hq
    have hbe : (a.toList == [112, 97, 99, 107, 97, 103, 101]) = false := by
      rw [beq_eq_false_iff_ne]
      exact fun e => ha (data_inj (by rw [← Go.ByteArray.toList_eq, e]; rfl))
    obtain ⟨⟨a0, a1, a2, a3, a4, a5, a6⟩, f0, f1, f2, f3, f4, f5, f6⟩ := row7 Hr1.out
    clear K22' K2r' ha hnr
    go_wp2_with fail
    refine ret_cells rfl rfl rfl rfl (heap_set7 Hr1.out _ _ _ _ _ _ _) Tryz.underlying26 rfl (by kernel_rfl) ⟨_, rfl, packV_zero _ _, below_set7 HB1.out (Nat.le_refl _) _ _ _ _ _ _ _⟩
  have hbe : (a.toList == [112, 97, 99, 107, 97, 103, 101]) = true := by rw [ha]; decide +kernel
  obtain ⟨K23, K2v⟩ := K2r'.out ha
  have K23' := Lib.hid K23
  have K2v' := Lib.hid K2v
  have HN : Hid (∀ W, Calls Tryz.prog 24 #[.string nm] W fun e w' => e = .returned (.bool (nameB nm)) ∧ Below W.heap.size W w') := fun W => (refName_any nm hnz W).mono fun e w' h => ⟨h.1, h.2 ▸ Below.refl _ _⟩
  have Hnz := Lib.hid hnz
  have HLr := Lib.hid (HL.out.cut 1 hn1)
  rw [List.drop_one, List.tail_cons] at HLr
  have Hb0 := Lib.hid hb0; have Hb1 := Lib.hid hb1
  have Hnr := Lib.hid hnr
  clear K2r' K22' K23 K2v ha hnz HL Hn hb0 hb1 hnr
  go_wp2_with fail
  have c0n := c0
  have d1n := d1
  refine (HN.out w1).mono ?_
  rintro e w3 ⟨rfl, hb3⟩
  have HB3 := Lib.hid hb3
  have Hr3 := Lib.hid ((HB3.out.block _ hz1).trans Hr1.out)
  have c03 := below_cell HB3.out c0 Hb0.out
  have d13 := below_cell HB3.out d1 Hb1.out
  have d23 := below_cell HB3.out d2 Hb1.out
  clear hb3 HN c0n d1n
  cases hnb : nameB nm with
  | false =>
    have hq := K23'.out hnb
    subst hq
    obtain ⟨⟨a0, a1, a2, a3, a4, a5, a6⟩, f0, f1, f2, f3, f4, f5, f6⟩ := row7 Hr3.out
    clear K23' K2v' hnb
    go_wp2_with fail
    refine ret_cells rfl rfl rfl rfl (heap_set7 Hr3.out _ _ _ _ _ _ _) Tryz.underlying26 rfl (by kernel_rfl) ⟨_, rfl, packV_zero _ _, below_set7 (bot HB1.out HB3.out) (Nat.le_refl _) _ _ _ _ _ _ _⟩
  | true =>
  obtain ⟨K20, K2L⟩ := K2v'.out hnb
  have K20' := Lib.hid K20
  have K2L' := Lib.hid K2L
  clear K23' K2v' K20 K2L hnb hbe
  cases hvp : vparse vs with
  | none =>
    have hq := K20'.out hvp
    subst hq
    have HV : Hid (∀ W, Calls Tryz.prog 52 #[.string vs] W fun e w' => e = .returned (.tuple #[.agg #[.int .i64 0, .int .i64 0, .int .i64 0], .bool false]) ∧ Below W.heap.size W w') := fun W => by
      have := refVParse_any vs W hvs1
      rw [hvp] at this
      exact this
    clear K20' K2L' hvp
    go_wp2_with fail
    refine (HV.out w3).mono ?_
    rintro e w4 ⟨rfl, hb4⟩
    go_upto_region 9 with (fail)
    obtain ⟨w5, hw5⟩ : ∃ w5, w5 = w4.alloc (.cells #[.int .i64 0, .int .i64 0, .int .i64 0] 23) := ⟨_, rfl⟩
    have HB5 : Hid (Below w3.heap.size w3 w5) := by unfold Hid; rw [hw5]; exact bal hb4 _
    rw [← hw5]
    have hr5 := (HB5.out.block _ (Nat.lt_of_lt_of_le hz1 HB3.out.size)).trans Hr3.out
    obtain ⟨⟨a0, a1, a2, a3, a4, a5, a6⟩, f0, f1, f2, f3, f4, f5, f6⟩ := row7 hr5
    have Hr5 := Lib.hid hr5
    clear hw5 hb4 hr5
    go_wp2_with fail
    refine ret_cells rfl rfl rfl rfl (heap_set7 Hr5.out _ _ _ _ _ _ _) Tryz.underlying26 rfl (by kernel_rfl) ⟨_, rfl, packV_zero _ _, below_set7 (bot (bot HB1.out HB3.out) HB5.out) (Nat.le_refl _) _ _ _ _ _ _ _⟩
  | some ver =>
  obtain ⟨K2e, K2l⟩ := K2L'.out ver hvp |> fun h => (⟨h.1, h.2⟩ : _ ∧ _)
  have K2e' := Lib.hid K2e
  have K2l' := Lib.hid K2l
  have HV : Hid (∀ W, Calls Tryz.prog 52 #[.string vs] W fun e w' => e = .returned (.tuple #[.agg #[.int .i64 ver.major, .int .i64 ver.minor, .int .i64 ver.patch], .bool true]) ∧ Below W.heap.size W w') := fun W => by
    have := refVParse_any vs W hvs1
    rw [hvp] at this
    exact this
  clear K20' K2L' hvp K2e K2l
  go_wp2_with fail
  refine (HV.out w3).mono ?_
  rintro e w4 ⟨rfl, hb4⟩
  go_upto_region 9 with (fail)
  obtain ⟨x1, x2, x3⟩ := ver
  simp only at K2e' K2l' ⊢
  obtain ⟨w5, hw5⟩ : ∃ w5, w5 = w4.alloc (.cells #[.int .i64 x1, .int .i64 x2, .int .i64 x3] 23) := ⟨_, rfl⟩
  have HB5 : Hid (Below w3.heap.size w3 w5) := by unfold Hid; rw [hw5]; exact bal hb4 _
  have hv5 : w5.heap[w4.heap.size]? = some (.cells #[.int .i64 x1, .int .i64 x2, .int .i64 x3] 23 (0, 0)) := by rw [hw5]; exact heap_alloc_new w4 _
  rw [← hw5]
  have HB15 := Lib.hid (bot HB3.out HB5.out)
  obtain ⟨⟨v0, v1, v2⟩, _⟩ := row3 hv5
  have hv4 : w4.heap.size < w5.heap.size := (Array.getElem?_eq_some_iff.1 hv5).1
  clear hw5 hb4 hv5 HV HB3 HB5 c03 d13 d23 Hr3
  have hsl : ∀ W, (Instr.slice 58 (.slice (some ⟨b0, o0, none⟩) n cL) (some (.int .i64 1)) none none).run Tryz.prog W = .ok (.slice (if cL = 1 then some (⟨b0, o0, none⟩ : Addr) else Option.map (fun x : Addr => x.add (1 * 1)) (some (⟨b0, o0, none⟩ : Addr))) (n - 1) (cL - 1)) W := fun W =>
    run_from (P := Tryz.prog) (t := 58) (e := 61) (z := 1) Tryz.underlying58 (by kernel_rfl) (fun _ => by kernel_rfl) (some ⟨b0, o0, none⟩) n cL 1 hn1 W
  obtain ⟨X, hX⟩ : ∃ X, X = (if cL = 1 then some (⟨b0, o0, none⟩ : Addr) else Option.map (fun x : Addr => x.add (1 * 1)) (some (⟨b0, o0, none⟩ : Addr))) := ⟨_, rfl⟩
  have HLq : Hid (SlV (rSlice rStr) w1 (fun b => b < w1.heap.size) rest (.slice X (n - 1) (cL - 1))) := by unfold Hid; rw [hX]; exact HLr.out
  rw [← hX] at hsl
  obtain ⟨ln, hln⟩ : ∃ ln, ln = n - 1 := ⟨_, rfl⟩
  rw [← hln] at hsl HLq
  have hrl : rest.length ≤ 100000 := by have := Hnr.out; omega
  have Hrl := Lib.hid hrl
  clear hX hln HLr hrl
  have HLs : Hid (∀ W A2 c2 T, Below w1.heap.size w1 W → SlV rStr W T packOrder (.slice A2 3 c2) → Calls Tryz.prog 53 #[.slice X ln (cL - 1), .slice A2 3 c2] W (ListsW (listsE packOrder rest (0, rm 3 fun _ => [])) 3 W)) := fun W A2 c2 T hW hT =>
    refLists_any rest packOrder X ln (cL - 1) A2 3 c2 W _ T (HLq.out.belowSize hW) hT (by decide) (by decide) Hrl.out (fun ws hws => by
      obtain ⟨q1, q2, q3⟩ := HL2.out ws (by simp [hws])
      exact ⟨q1, by omega, by omega⟩)
  go_wp2_with fail
  obtain ⟨w6, hw6⟩ : ∃ w6, w6 = w5.alloc (.cells #[.string ⟨#[110, 101, 101, 100, 115]⟩, .string ⟨#[98, 101, 115, 105, 100, 101]⟩, .string ⟨#[108, 105, 107, 101, 115]⟩] 9) := ⟨_, rfl⟩
  have hwb : w6.heap[w5.heap.size]? = some (.cells #[.string ⟨#[110, 101, 101, 100, 115]⟩, .string ⟨#[98, 101, 115, 105, 100, 101]⟩, .string ⟨#[108, 105, 107, 101, 115]⟩] 9 (0, 0)) := by rw [hw6]; exact heap_alloc_new w5 _
  have HB56 : Hid (Below w5.heap.size w5 w6) := by unfold Hid; rw [hw6]; exact bal (Below.refl _ _) _
  have hso : SlV rStr w6 (fun _ => True) packOrder (.slice (some ⟨w5.heap.size, 0, none⟩) 3 3) := SlV.of_block hwb (elemsS (l := packOrder) (by decide)) trivial rfl (by decide) (by decide)
  have Hso := Lib.hid hso
  rw [← hw6]
  clear hw6 hwb hso
  refine (HLs.out w6 _ _ _ (bot HB15.out HB56.out) Hso.out).mono ?_
  rintro e w7 ⟨hb7, (⟨k, hk0, hk, rfl⟩ | ⟨P, v, l, hk, rfl, hPz, hPa, hPs⟩)⟩
  · have hq := K2e'.out k hk
    subst hq
    have hke : (k != 0) = true := by rw [bne_iff_ne]; exact hk0
    have HB17 := Lib.hid (bot (bot HB15.out HB56.out) hb7)
    have hr7 := (HB17.out.block _ hz1).trans Hr1.out
    obtain ⟨⟨a0, a1, a2, a3, a4, a5, a6⟩, f0, f1, f2, f3, f4, f5, f6⟩ := row7 hr7
    have Hr7 := Lib.hid hr7
    clear hr7 hb7 hk hk0 HLs K2l' K2e' HLq Hso v0 v1 v2 c0 d0 d1 d2
    go_wp2_with fail
    refine ret_cells rfl rfl rfl rfl (heap_set7 Hr7.out _ _ _ _ _ _ _) Tryz.underlying26 rfl (by kernel_rfl) ⟨_, rfl, packV_zero _ _, below_set7 (bot HB1.out HB17.out) (Nat.le_refl _) _ _ _ _ _ _ _⟩
  have HB57 := Lib.hid (bot HB56.out hb7)
  have HB17 := Lib.hid (bot HB15.out HB57.out)
  obtain ⟨Kf, Kt⟩ := K2l'.out l hk
  have Kf' := Lib.hid Kf
  have Kt' := Lib.hid Kt
  have hP0 : w7.cell? ⟨P, 0, none⟩ = some (v 0) := hPa.cell (j := 0) (by decide)
  have hP1 : w7.cell? ⟨P, 1, none⟩ = some (v 1) := hPa.cell (j := 1) (by decide)
  have hP2 : w7.cell? ⟨P, 2, none⟩ = some (v 2) := hPa.cell (j := 2) (by decide)
  have s0 := hPs 0 (by decide)
  have s1 := hPs 1 (by decide)
  have s2 := hPs 2 (by decide)
  obtain ⟨E0, e0, hv0, _, _⟩ := s0.val
  obtain ⟨E1, e1, hv1, _, _⟩ := s1.val
  obtain ⟨E2, e2, hv2, _, _⟩ := s2.val
  rw [hv0] at hP0 s0
  rw [hv1] at hP1 s1
  rw [hv2] at hP2 s2
  have hw16 : w1.heap.size ≤ w6.heap.size := (bot HB15.out HB56.out).size
  have HPV : Hid (PackV w7 (fun b => w1.heap.size ≤ b) ⟨nm, ⟨x1, x2, x3⟩, l 0, l 1, l 2⟩ (.agg #[.string nm, .int .i64 x1, .int .i64 x2, .int .i64 x3, .slice E0 (l 0).length e0, .slice E1 (l 1).length e1, .slice E2 (l 2).length e2])) :=
    ⟨_, _, _, _, _, _, _, _, _, rfl, Hnz.out, s0.more fun b hb _ => Nat.le_trans hw16 hb, s1.more fun b hb _ => Nat.le_trans hw16 hb, s2.more fun b hb _ => Nat.le_trans hw16 hb⟩
  have c07 := below_cell HB17.out c0 Hb0.out
  have d17 := below_cell HB17.out d1 Hb1.out
  have v0 := below_cell HB57.out v0 hv4
  have v1 := below_cell HB57.out v1 hv4
  have v2 := below_cell HB57.out v2 hv4
  clear hb7 hk hPa hPs s0 s1 s2 hv0 hv1 hv2 Kf Kt K2l' K2e' HLs HLq Hso c0 d0 d1 d2
  have HM : Hid (∀ W, Below w7.heap.size w7 W → Calls Tryz.prog 15 #[.agg #[.string nm, .int .i64 x1, .int .i64 x2, .int .i64 x3, .slice E0 (l 0).length e0, .slice E1 (l 1).length e1, .slice E2 (l 2).length e2]] W fun e w' => e = .returned (.bool (packB ⟨nm, ⟨x1, x2, x3⟩, l 0, l 1, l 2⟩)) ∧ Below W.heap.size W w') := fun W hW => refPackMay_any _ _ W _ (HPV.out.keep hW)
  have Hr7 := Lib.hid ((HB17.out.block _ hz1).trans Hr1.out)
  have hz7 : w.heap.size < w7.heap.size := Nat.lt_of_lt_of_le hz1 HB17.out.size
  generalize packB ⟨nm, ⟨x1, x2, x3⟩, l 0, l 1, l 2⟩ = okB at *
  generalize (l 0).length = m0 at *
  generalize (l 1).length = m1 at *
  generalize (l 2).length = m2 at *
  go_wp2_with fail
  go_region_held3 (fun w' => w'.cell? ⟨b0, o0, none⟩ = some (.slice (some ⟨b1, o1, none⟩) 3 cc0) ∧ w'.cell? ⟨b1, o1 + 1, none⟩ = some (.string nm) ∧ w'.cell? ⟨w4.heap.size, 0, none⟩ = some (.int .i64 x1) ∧ w'.cell? ⟨w4.heap.size, 1, none⟩ = some (.int .i64 x2) ∧ w'.cell? ⟨w4.heap.size, 2, none⟩ = some (.int .i64 x3) ∧ w'.cell? ⟨P, 0, none⟩ = some (.slice E0 m0 e0) ∧ w'.cell? ⟨P, 1, none⟩ = some (.slice E1 m1 e1) ∧ w'.cell? ⟨P, 2, none⟩ = some (.slice E2 m2 e2)) (first | go_keep) (fail)
  clear c07 d17 v0 v1 v2 hP0 hP1 hP2
  obtain ⟨w9, hw9⟩ : ∃ w9, w9 = (w7.alloc (.cells #[.string nm, .int .i64 x1, .int .i64 x2, .int .i64 x3, .slice E0 m0 e0, .slice E1 m1 e1, .slice E2 m2 e2] 26)).drew := ⟨_, rfl⟩
  have hr9 : w9.heap[w7.heap.size]? = some (.cells #[.string nm, .int .i64 x1, .int .i64 x2, .int .i64 x3, .slice E0 m0 e0, .slice E1 m1 e1, .slice E2 m2 e2] 26 (0, 0)) := by rw [hw9]; exact heap_alloc_new w7 _
  have HB79 : Hid (Below w7.heap.size w7 w9) := by unfold Hid; rw [hw9]; exact (bal (Below.refl _ _) _).drew
  have hz9 : w7.heap.size < w9.heap.size := (Array.getElem?_eq_some_iff.1 hr9).1
  obtain ⟨⟨a0, a1, a2, a3, a4, a5, a6⟩, _⟩ := row7 hr9
  rw [← hw9]
  clear hw9
  go_wp2_with fail
  refine (HM.out w9 HB79.out).mono ?_
  rintro e w10 ⟨rfl, hb10⟩
  have HB710 := Lib.hid (bot HB79.out hb10)
  have hr10 := (HB710.out.block _ hz7).trans Hr7.out
  obtain ⟨⟨b0', b1', b2', b3', b4', b5', b6'⟩, f0, f1, f2, f3, f4, f5, f6⟩ := row7 hr10
  have Hr10 := Lib.hid hr10
  obtain ⟨⟨g0, g1, g2, g3, g4, g5, g6⟩, _⟩ := row7 ((hb10.block _ hz9).trans hr9)
  have HPV10 := Lib.hid (HPV.out.keep HB710.out)
  have HBf := Lib.hid (bot HB1.out (bot HB17.out HB710.out))
  have hw1w : w.heap.size ≤ w1.heap.size := Nat.le_of_lt hz1
  clear hb10 hr10 hr9 a0 a1 a2 a3 a4 a5 a6 HM HPV
  cases okB with
  | false =>
    have hq := Kf'.out rfl
    subst hq
    clear Kf' Kt'
    go_wp2_with fail
    refine ret_cells rfl rfl rfl rfl (heap_set7 Hr10.out _ _ _ _ _ _ _) Tryz.underlying26 rfl (by kernel_rfl) ⟨_, rfl, packV_zero _ _, below_set7 HBf.out (Nat.le_refl _) _ _ _ _ _ _ _⟩
  | true =>
    have hq := Kt'.out rfl
    subst hq
    clear Kf' Kt'
    go_wp2_with fail
    refine ret_cells rfl rfl rfl rfl (heap_set7 Hr10.out _ _ _ _ _ _ _) Tryz.underlying26 rfl (by kernel_rfl) ⟨_, rfl, ?_, below_set7 HBf.out (Nat.le_refl _) _ _ _ _ _ _ _⟩
    exact packV_set7 HPV10.out hz1 _ _ _ _ _ _ _
end Go.Proofs.YtldjldkejjeamaaGreatDoor
set_option autoImplicit false
set_option relaxedAutoImplicit false
set_option linter.unusedVariables false
set_option linter.unusedSimpArgs false
namespace Go.Proofs.YtldjldkejjeamaaGreatDoor
open Go.Rows Go.RowKit Go.Shelf Go.Sort

theorem packSame_yes (p : Pack) (v u : Value) (w : World) (S T : Nat → Prop) (hp : PackV w S p v) (hq : PackV w T p u) : Calls Tryz.prog 16 #[v, u] w fun e w' => e = .returned (.bool true) ∧ Below w.heap.size w w' := by
  have := packSame_any p p v u w S T hp hq
  rw [eqB_true rfl] at this
  exact this
theorem refSame_yes (p : Pack) (v u : Value) (w : World) (S T : Nat → Prop) (hp : PackV w S p v) (hq : PackV w T p u) : Calls Tryz.prog 17 #[v, u] w fun e w' => e = .returned (.bool true) ∧ Below w.heap.size w w' := by
  have := refSame_any p p v u w S T hp hq
  rw [eqB_true rfl] at this
  exact this
theorem packQ_text {p : Pack} (h : packB p = true) : packQ (packText p) = (p, 0) := by unfold packQ; rw [pack_text h]
theorem packText_size {p : Pack} (h : packB p = true) : (packText p).size ≤ 4096 := by
  unfold packB at h
  simp only [Bool.and_eq_true, decide_eq_true_eq] at h
  exact h.2.2.2.2.2.2

set_option maxHeartbeats 8000000 in
set_option maxRecDepth 100000 in
theorem packReads_law (t : ByteArray) (w : World) (hv : Vok w) (ht : t.size ≤ 1048576) :
    Calls Tryz.prog 5 #[.string t] w fun e w' => e = .returned (.bool true) ∧ Below w.heap.size w w' := by
  obtain ⟨p, k, hQ⟩ : ∃ p k, packQ t = (p, k) := ⟨_, _, rfl⟩
  have HP := Lib.hid (packParseO_any t w hv (by omega))
  have HF := Lib.hid (fun W => refPackParse_any t W (by omega))
  rw [hQ] at HP HF
  simp only at HP HF
  have Hv := Lib.hid hv
  clear hv hQ
  have HB0 : Hid (Below w.heap.size w w) := Below.refl _ _
  have hkk : (k == k) = true := by simp
  go_enter Tryz.func5, Tryz.ntmps5
  go_wp2_with fail
  refine HP.out.mono ?_
  rintro e w1 ⟨u, rfl, hu, hb⟩
  have hv1 := hu.packV
  obtain ⟨Aa, na, ca, Ba, ma, da, Ca, ka, ea, rfl, hza, _, _, _⟩ := id hv1
  have Hv1 := Lib.hid hv1
  clear hu hv1 HP
  have HB1 := Lib.hid (bot HB0.out hb)
  clear HB0
  clear hb
  go_upto_region 2 with (fail)
  obtain ⟨w2, hw2⟩ : ∃ w2, w2 = w1.alloc (.cells #[.string p.name, .int .i64 p.ver.major, .int .i64 p.ver.minor, .int .i64 p.ver.patch, .slice Aa na ca, .slice Ba ma da, .slice Ca ka ea] 26) := ⟨_, rfl⟩
  have hn : w2.heap[w1.heap.size]? = some (.cells #[.string p.name, .int .i64 p.ver.major, .int .i64 p.ver.minor, .int .i64 p.ver.patch, .slice Aa na ca, .slice Ba ma da, .slice Ca ka ea] 26 (0, 0)) := by rw [hw2]; exact heap_alloc_new w1 _
  have hb : Below w1.heap.size w1 w2 := by rw [hw2]; exact bal (Below.refl _ _) _
  have hzz : w1.heap.size + 1 = w2.heap.size := by rw [hw2]; simp
  rw [← hw2]
  try rw [hzz]
  clear hw2 hzz
  have Hpn := Lib.hid ((Hv1.out).keep hb)
  have HB2 := Lib.hid (bot HB1.out hb)
  clear HB1
  have Hra_2 := Lib.hid hn
  have Hpa_2 := Hpn
  clear hn hb Hpn
  clear Hv1
  go_wp2_with fail
  refine (HF.out _).mono ?_
  rintro e w3 ⟨u, rfl, hv1, hb⟩
  obtain ⟨Ab, nb, cb, Bb, mb, db, Cb, kb, eb, rfl, hzb, _, _, _⟩ := id hv1
  have Hv1 := Lib.hid hv1
  clear hv1 HF
  have HB3 := Lib.hid (bot HB2.out hb)
  have Hra_3 := Lib.hid ((hb.block _ (Array.getElem?_eq_some_iff.1 Hra_2.out).1).trans Hra_2.out)
  have Hpa_3 := Lib.hid (Hpa_2.out.keep hb)
  clear HB2 Hra_2 Hpa_2
  clear hb
  go_upto_region 3 with (fail)
  obtain ⟨w4, hw4⟩ : ∃ w4, w4 = w3.alloc (.cells #[.string p.name, .int .i64 p.ver.major, .int .i64 p.ver.minor, .int .i64 p.ver.patch, .slice Ab nb cb, .slice Bb mb db, .slice Cb kb eb] 26) := ⟨_, rfl⟩
  have hn : w4.heap[w3.heap.size]? = some (.cells #[.string p.name, .int .i64 p.ver.major, .int .i64 p.ver.minor, .int .i64 p.ver.patch, .slice Ab nb cb, .slice Bb mb db, .slice Cb kb eb] 26 (0, 0)) := by rw [hw4]; exact heap_alloc_new w3 _
  have hb : Below w3.heap.size w3 w4 := by rw [hw4]; exact bal (Below.refl _ _) _
  have hzz : w3.heap.size + 1 = w4.heap.size := by rw [hw4]; simp
  rw [← hw4]
  try rw [hzz]
  clear hw4 hzz
  have Hpn := Lib.hid ((Hv1.out).keep hb)
  have HB4 := Lib.hid (bot HB3.out hb)
  have Hra_4 := Lib.hid ((hb.block _ (Array.getElem?_eq_some_iff.1 Hra_3.out).1).trans Hra_3.out)
  have Hpa_4 := Lib.hid (Hpa_3.out.keep hb)
  clear HB3 Hra_3 Hpa_3
  have Hrb_4 := Lib.hid hn
  have Hpb_4 := Hpn
  clear hn hb Hpn
  clear Hv1
  obtain ⟨⟨a0, a1, a2, a3, a4, a5, a6⟩, _⟩ := row7 Hra_4.out
  obtain ⟨⟨b0, b1, b2, b3, b4, b5, b6⟩, _⟩ := row7 Hrb_4.out
  go_wp2_with fail
  refine (refSame_yes p _ _ w4 _ _ Hpa_4.out Hpb_4.out).mono ?_
  rintro e w5 ⟨rfl, hb⟩
  clear a0 a1 a2 a3 a4 a5 a6 b0 b1 b2 b3 b4 b5 b6
  have HB5 := Lib.hid (bot HB4.out hb)
  have Hra_5 := Lib.hid ((hb.block _ (Array.getElem?_eq_some_iff.1 Hra_4.out).1).trans Hra_4.out)
  have Hpa_5 := Lib.hid (Hpa_4.out.keep hb)
  have Hrb_5 := Lib.hid ((hb.block _ (Array.getElem?_eq_some_iff.1 Hrb_4.out).1).trans Hrb_4.out)
  have Hpb_5 := Lib.hid (Hpb_4.out.keep hb)
  clear HB4 Hra_4 Hpa_4 Hrb_4 Hpb_4
  clear hb
  go_wp2_with fail
  refine (known05_any _ (Hv.out.below HB5.out)).mono ?_
  rintro e w6 ⟨rfl, hb⟩
  have HB6 := Lib.hid (bot HB5.out hb)
  have Hra_6 := Lib.hid ((hb.block _ (Array.getElem?_eq_some_iff.1 Hra_5.out).1).trans Hra_5.out)
  have Hpa_6 := Lib.hid (Hpa_5.out.keep hb)
  have Hrb_6 := Lib.hid ((hb.block _ (Array.getElem?_eq_some_iff.1 Hrb_5.out).1).trans Hrb_5.out)
  have Hpb_6 := Lib.hid (Hpb_5.out.keep hb)
  clear HB5 Hra_5 Hpa_5 Hrb_5 Hpb_5
  clear hb
  go_wp2_with fail
  go_ret
  exact ⟨rfl, HB6.out⟩


set_option maxHeartbeats 8000000 in
set_option maxRecDepth 100000 in
theorem packWrites_law (p : Pack) (u : Value) (w : World) (hv : Vok w) (hp : PackV w (fun b => b < w.heap.size) p u) :
    Calls Tryz.prog 4 #[u] w fun e w' => e = .returned (.bool true) ∧ Below w.heap.size w w' := by
  have Hv := Lib.hid hv
  have Hp := Lib.hid hp
  obtain ⟨Aa, na, ca, Ba, ma, da, Ca, ka, ea, rfl, hza, _, _, _⟩ := id hp
  obtain ⟨s, k, hS⟩ : ∃ s k, packP p = (s, k) := ⟨_, _, rfl⟩
  have HP : Hid (∀ W, Vok W → ∀ S u, PackV W S p u → Calls Tryz.prog 19 #[u] W fun e w' => e = .returned (.tuple #[.string s, .int .i64 k]) ∧ Below W.heap.size W w') := fun W hW S u hu => by
    have := packPrint_any p u W S hW.tab hu
    rw [hS] at this
    exact this
  have HR : Hid (∀ W S u, PackV W S p u → Calls Tryz.prog 20 #[u] W fun e w' => e = .returned (.tuple #[.string s, .int .i64 k]) ∧ Below W.heap.size W w') := fun W S u hu => by
    have := refPackPrint_any p u W S hu
    rw [hS] at this
    exact this
  have Hno : Hid (packB p = false → k = 24) := fun h => by unfold packP at hS; rw [h] at hS; exact (Prod.mk.inj hS).2.symm
  have Hyes : Hid (packB p = true → s = packText p ∧ k = 0) := fun h => by unfold packP at hS; rw [h] at hS; exact ⟨(Prod.mk.inj hS).1.symm, (Prod.mk.inj hS).2.symm⟩
  have HQ : Hid (packB p = true → ∀ W, Vok W → Calls Tryz.prog 21 #[.string (packText p)] W fun e w' => ∃ u, e = .returned (.tuple #[u, .int .i64 0]) ∧ PackO w' W.heap.size p u ∧ Below W.heap.size W w') := fun h W hW => by
    have := packParseO_any (packText p) W hW (by have := packText_size h; omega)
    rw [packQ_text h] at this
    exact this
  have hss : (s.toList == s.toList) = true := by simp
  have hkk : (k != k) = false := by simp
  have HB0 : Hid (Below w.heap.size w w) := Below.refl _ _
  clear hv hp hS
  go_enter Tryz.func4, Tryz.ntmps4
  go_upto_region 1 with (fail)
  obtain ⟨w1, hw1⟩ : ∃ w1, w1 = w.alloc (.cells #[.string p.name, .int .i64 p.ver.major, .int .i64 p.ver.minor, .int .i64 p.ver.patch, .slice Aa na ca, .slice Ba ma da, .slice Ca ka ea] 26) := ⟨_, rfl⟩
  have hn : w1.heap[w.heap.size]? = some (.cells #[.string p.name, .int .i64 p.ver.major, .int .i64 p.ver.minor, .int .i64 p.ver.patch, .slice Aa na ca, .slice Ba ma da, .slice Ca ka ea] 26 (0, 0)) := by rw [hw1]; exact heap_alloc_new w _
  have hb : Below w.heap.size w w1 := by rw [hw1]; exact bal (Below.refl _ _) _
  have hzz : w.heap.size + 1 = w1.heap.size := by rw [hw1]; simp
  rw [← hw1]
  try rw [hzz]
  clear hw1 hzz
  have Hpn := Lib.hid ((Hp.out).keep hb)
  have HB1 := Lib.hid (bot HB0.out hb)
  clear HB0
  have Hra_1 := Lib.hid hn
  have Hpa_1 := Hpn
  clear hn hb Hpn
  clear Hp
  obtain ⟨⟨a0, a1, a2, a3, a4, a5, a6⟩, _⟩ := row7 Hra_1.out
  go_wp2_with fail
  refine (HP.out _ (Hv.out.below HB1.out) _ _ Hpa_1.out).mono ?_
  rintro e w2 ⟨rfl, hb⟩
  clear a0 a1 a2 a3 a4 a5 a6
  have HB2 := Lib.hid (bot HB1.out hb)
  have Hra_2 := Lib.hid ((hb.block _ (Array.getElem?_eq_some_iff.1 Hra_1.out).1).trans Hra_1.out)
  have Hpa_2 := Lib.hid (Hpa_1.out.keep hb)
  clear HB1 Hra_1 Hpa_1
  clear hb
  obtain ⟨⟨a0, a1, a2, a3, a4, a5, a6⟩, _⟩ := row7 Hra_2.out
  go_wp2_with fail
  refine (HR.out _ _ _ Hpa_2.out).mono ?_
  rintro e w3 ⟨rfl, hb⟩
  clear a0 a1 a2 a3 a4 a5 a6
  have HB3 := Lib.hid (bot HB2.out hb)
  have Hra_3 := Lib.hid ((hb.block _ (Array.getElem?_eq_some_iff.1 Hra_2.out).1).trans Hra_2.out)
  have Hpa_3 := Lib.hid (Hpa_2.out.keep hb)
  clear HB2 Hra_2 Hpa_2
  clear hb
  go_wp2_with fail
  refine (known05_any _ (Hv.out.below HB3.out)).mono ?_
  rintro e w4 ⟨rfl, hb⟩
  have HB4 := Lib.hid (bot HB3.out hb)
  have Hra_4 := Lib.hid ((hb.block _ (Array.getElem?_eq_some_iff.1 Hra_3.out).1).trans Hra_3.out)
  have Hpa_4 := Lib.hid (Hpa_3.out.keep hb)
  clear HB3 Hra_3 Hpa_3
  clear hb
  cases hB : packB p with
  | false =>
    have hk := Hno.out hB
    subst hk
    clear hB Hno Hyes HQ HP HR
    go_wp2_with fail
    go_ret
    exact ⟨rfl, HB4.out⟩
  | true =>
  obtain ⟨rfl, rfl⟩ := Hyes.out hB
  have HQ' := Lib.hid (HQ.out hB)
  clear hB Hno Hyes HQ HP HR
  go_wp2_with fail
  refine (HQ'.out _ (Hv.out.below HB4.out)).mono ?_
  rintro e w5 ⟨u2, rfl, hu, hb⟩
  have hv1 := hu.packV
  obtain ⟨Ab, nb, cb, Bb, mb, db, Cb, kb, eb, rfl, hzb, _, _, _⟩ := id hv1
  have Hv1 := Lib.hid hv1
  clear hu hv1 HQ'
  have HB5 := Lib.hid (bot HB4.out hb)
  have Hra_5 := Lib.hid ((hb.block _ (Array.getElem?_eq_some_iff.1 Hra_4.out).1).trans Hra_4.out)
  have Hpa_5 := Lib.hid (Hpa_4.out.keep hb)
  clear HB4 Hra_4 Hpa_4
  clear hb
  go_upto_region 8 with (fail)
  obtain ⟨w6, hw6⟩ : ∃ w6, w6 = w5.alloc (.cells #[.string p.name, .int .i64 p.ver.major, .int .i64 p.ver.minor, .int .i64 p.ver.patch, .slice Ab nb cb, .slice Bb mb db, .slice Cb kb eb] 26) := ⟨_, rfl⟩
  have hn : w6.heap[w5.heap.size]? = some (.cells #[.string p.name, .int .i64 p.ver.major, .int .i64 p.ver.minor, .int .i64 p.ver.patch, .slice Ab nb cb, .slice Bb mb db, .slice Cb kb eb] 26 (0, 0)) := by rw [hw6]; exact heap_alloc_new w5 _
  have hb : Below w5.heap.size w5 w6 := by rw [hw6]; exact bal (Below.refl _ _) _
  have hzz : w5.heap.size + 1 = w6.heap.size := by rw [hw6]; simp
  rw [← hw6]
  try rw [hzz]
  clear hw6 hzz
  have Hpn := Lib.hid ((Hv1.out).keep hb)
  have HB6 := Lib.hid (bot HB5.out hb)
  have Hra_6 := Lib.hid ((hb.block _ (Array.getElem?_eq_some_iff.1 Hra_5.out).1).trans Hra_5.out)
  have Hpa_6 := Lib.hid (Hpa_5.out.keep hb)
  clear HB5 Hra_5 Hpa_5
  have Hrb_6 := Lib.hid hn
  have Hpb_6 := Hpn
  clear hn hb Hpn
  clear Hv1
  obtain ⟨⟨a0, a1, a2, a3, a4, a5, a6⟩, _⟩ := row7 Hra_6.out
  obtain ⟨⟨b0, b1, b2, b3, b4, b5, b6⟩, _⟩ := row7 Hrb_6.out
  go_wp2_with fail
  refine (refSame_yes p _ _ w6 _ _ Hpa_6.out Hpb_6.out).mono ?_
  rintro e w7 ⟨rfl, hb⟩
  clear a0 a1 a2 a3 a4 a5 a6 b0 b1 b2 b3 b4 b5 b6
  have HB7 := Lib.hid (bot HB6.out hb)
  have Hra_7 := Lib.hid ((hb.block _ (Array.getElem?_eq_some_iff.1 Hra_6.out).1).trans Hra_6.out)
  have Hpa_7 := Lib.hid (Hpa_6.out.keep hb)
  have Hrb_7 := Lib.hid ((hb.block _ (Array.getElem?_eq_some_iff.1 Hrb_6.out).1).trans Hrb_6.out)
  have Hpb_7 := Lib.hid (Hpb_6.out.keep hb)
  clear HB6 Hra_6 Hpa_6 Hrb_6 Hpb_6
  clear hb
  go_wp2_with fail
  go_ret
  exact ⟨rfl, HB7.out⟩


set_option maxHeartbeats 8000000 in
set_option maxRecDepth 100000 in
theorem packTexts_law (p q : Pack) (u v : Value) (w : World) (hv : Vok w) (hp : PackV w (fun b => b < w.heap.size) p u) (hq : PackV w (fun b => b < w.heap.size) q v) :
    Calls Tryz.prog 8 #[u, v] w fun e w' => e = .returned (.bool true) ∧ Below w.heap.size w w' := by
  have Hv := Lib.hid hv
  have Hp := Lib.hid hp
  have Hq := Lib.hid hq
  obtain ⟨Aa, na, ca, Ba, ma, da, Ca, ka, ea, rfl, hza, _, _, _⟩ := id hp
  obtain ⟨Ab, nb, cb, Bb, mb, db, Cb, kb, eb, rfl, hzb, _, _, _⟩ := id hq
  obtain ⟨sat, kat, hSa⟩ : ∃ s k, packP p = (s, k) := ⟨_, _, rfl⟩
  have HPa : Hid (∀ W, Vok W → ∀ S u, PackV W S p u → Calls Tryz.prog 19 #[u] W fun e w' => e = .returned (.tuple #[.string sat, .int .i64 kat]) ∧ Below W.heap.size W w') := fun W hW S u hu => by
    have := packPrint_any p u W S hW.tab hu
    rw [hSa] at this
    exact this
  have Hnoa : Hid (packB p = false → kat = 24) := fun h => by unfold packP at hSa; rw [h] at hSa; exact (Prod.mk.inj hSa).2.symm
  have Hyesa : Hid (packB p = true → sat = packText p ∧ kat = 0) := fun h => by unfold packP at hSa; rw [h] at hSa; exact ⟨(Prod.mk.inj hSa).1.symm, (Prod.mk.inj hSa).2.symm⟩
  have HMa : Hid (∀ W, Vok W → ∀ S u, PackV W S p u → Calls Tryz.prog 14 #[u] W fun e w' => e = .returned (.bool (packB p)) ∧ Below W.heap.size W w') := fun W hW S u hu => packMay_any p u W S hW.tab hu
  obtain ⟨sbt, kbt, hSb⟩ : ∃ s k, packP q = (s, k) := ⟨_, _, rfl⟩
  have HPb : Hid (∀ W, Vok W → ∀ S u, PackV W S q u → Calls Tryz.prog 19 #[u] W fun e w' => e = .returned (.tuple #[.string sbt, .int .i64 kbt]) ∧ Below W.heap.size W w') := fun W hW S u hu => by
    have := packPrint_any q u W S hW.tab hu
    rw [hSb] at this
    exact this
  have Hnob : Hid (packB q = false → kbt = 24) := fun h => by unfold packP at hSb; rw [h] at hSb; exact (Prod.mk.inj hSb).2.symm
  have Hyesb : Hid (packB q = true → sbt = packText q ∧ kbt = 0) := fun h => by unfold packP at hSb; rw [h] at hSb; exact ⟨(Prod.mk.inj hSb).1.symm, (Prod.mk.inj hSb).2.symm⟩
  have HMb : Hid (∀ W, Vok W → ∀ S u, PackV W S q u → Calls Tryz.prog 14 #[u] W fun e w' => e = .returned (.bool (packB q)) ∧ Below W.heap.size W w') := fun W hW S u hu => packMay_any q u W S hW.tab hu
  have HE : Hid (packB p = true → packB q = true → (sat.toList == sbt.toList) = eqB p q) := fun h1 h2 => by
    obtain ⟨e1, _⟩ := Hyesa.out h1
    obtain ⟨e2, _⟩ := Hyesb.out h2
    rw [e1, e2, bytes_beq]
    by_cases h : p = q
    · rw [eqB_true h, decide_eq_true ((packText_inj h1 h2).2 h)]
    · rw [eqB_false h, decide_eq_false (fun e => h ((packText_inj h1 h2).1 e))]
  have HSm : Hid (∀ W S T u v, PackV W S p u → PackV W T q v → Calls Tryz.prog 16 #[u, v] W fun e w' => e = .returned (.bool (eqB p q)) ∧ Below W.heap.size W w') := fun W S T u v h1 h2 => packSame_any p q u v W S T h1 h2
  generalize eqB p q = r at *
  generalize hBp : packB p = bp at *
  generalize hBq : packB q = bq at *
  have HB0 : Hid (Below w.heap.size w w) := Below.refl _ _
  clear hv hp hq hSa hSb hBp hBq
  go_enter Tryz.func8, Tryz.ntmps8
  go_upto_region 1 with (fail)
  obtain ⟨w1, hw1⟩ : ∃ w1, w1 = w.alloc (.cells #[.string p.name, .int .i64 p.ver.major, .int .i64 p.ver.minor, .int .i64 p.ver.patch, .slice Aa na ca, .slice Ba ma da, .slice Ca ka ea] 26) := ⟨_, rfl⟩
  have hn : w1.heap[w.heap.size]? = some (.cells #[.string p.name, .int .i64 p.ver.major, .int .i64 p.ver.minor, .int .i64 p.ver.patch, .slice Aa na ca, .slice Ba ma da, .slice Ca ka ea] 26 (0, 0)) := by rw [hw1]; exact heap_alloc_new w _
  have hb : Below w.heap.size w w1 := by rw [hw1]; exact bal (Below.refl _ _) _
  have hzz : w.heap.size + 1 = w1.heap.size := by rw [hw1]; simp
  rw [← hw1]
  try rw [hzz]
  clear hw1 hzz
  have Hpn := Lib.hid ((Hp.out).keep hb)
  have HB1 := Lib.hid (bot HB0.out hb)
  clear HB0
  have Hra_1 := Lib.hid hn
  have Hpa_1 := Hpn
  clear hn hb Hpn
  obtain ⟨w2, hw2⟩ : ∃ w2, w2 = w1.alloc (.cells #[.string q.name, .int .i64 q.ver.major, .int .i64 q.ver.minor, .int .i64 q.ver.patch, .slice Ab nb cb, .slice Bb mb db, .slice Cb kb eb] 26) := ⟨_, rfl⟩
  have hn : w2.heap[w1.heap.size]? = some (.cells #[.string q.name, .int .i64 q.ver.major, .int .i64 q.ver.minor, .int .i64 q.ver.patch, .slice Ab nb cb, .slice Bb mb db, .slice Cb kb eb] 26 (0, 0)) := by rw [hw2]; exact heap_alloc_new w1 _
  have hb : Below w1.heap.size w1 w2 := by rw [hw2]; exact bal (Below.refl _ _) _
  have hzz : w1.heap.size + 1 = w2.heap.size := by rw [hw2]; simp
  rw [← hw2]
  try rw [hzz]
  clear hw2 hzz
  have Hpn := Lib.hid ((Hq.out.keep HB1.out).keep hb)
  have HB2 := Lib.hid (bot HB1.out hb)
  have Hra_2 := Lib.hid ((hb.block _ (Array.getElem?_eq_some_iff.1 Hra_1.out).1).trans Hra_1.out)
  have Hpa_2 := Lib.hid (Hpa_1.out.keep hb)
  clear HB1 Hra_1 Hpa_1
  have Hrb_2 := Lib.hid hn
  have Hpb_2 := Hpn
  clear hn hb Hpn
  clear Hp Hq
  obtain ⟨⟨a0, a1, a2, a3, a4, a5, a6⟩, _⟩ := row7 Hra_2.out
  obtain ⟨⟨b0, b1, b2, b3, b4, b5, b6⟩, _⟩ := row7 Hrb_2.out
  go_wp2_with fail
  refine (HPa.out _ (Hv.out.below HB2.out) _ _ Hpa_2.out).mono ?_
  rintro e w3 ⟨rfl, hb⟩
  clear a0 a1 a2 a3 a4 a5 a6 b0 b1 b2 b3 b4 b5 b6
  have HB3 := Lib.hid (bot HB2.out hb)
  have Hra_3 := Lib.hid ((hb.block _ (Array.getElem?_eq_some_iff.1 Hra_2.out).1).trans Hra_2.out)
  have Hpa_3 := Lib.hid (Hpa_2.out.keep hb)
  have Hrb_3 := Lib.hid ((hb.block _ (Array.getElem?_eq_some_iff.1 Hrb_2.out).1).trans Hrb_2.out)
  have Hpb_3 := Lib.hid (Hpb_2.out.keep hb)
  clear HB2 Hra_2 Hpa_2 Hrb_2 Hpb_2
  clear hb
  obtain ⟨⟨a0, a1, a2, a3, a4, a5, a6⟩, _⟩ := row7 Hra_3.out
  obtain ⟨⟨b0, b1, b2, b3, b4, b5, b6⟩, _⟩ := row7 Hrb_3.out
  go_wp2_with fail
  refine (HPb.out _ (Hv.out.below HB3.out) _ _ Hpb_3.out).mono ?_
  rintro e w4 ⟨rfl, hb⟩
  clear a0 a1 a2 a3 a4 a5 a6 b0 b1 b2 b3 b4 b5 b6
  have HB4 := Lib.hid (bot HB3.out hb)
  have Hra_4 := Lib.hid ((hb.block _ (Array.getElem?_eq_some_iff.1 Hra_3.out).1).trans Hra_3.out)
  have Hpa_4 := Lib.hid (Hpa_3.out.keep hb)
  have Hrb_4 := Lib.hid ((hb.block _ (Array.getElem?_eq_some_iff.1 Hrb_3.out).1).trans Hrb_3.out)
  have Hpb_4 := Lib.hid (Hpb_3.out.keep hb)
  clear HB3 Hra_3 Hpa_3 Hrb_3 Hpb_3
  clear hb
  go_wp2_with fail
  refine (known05_any _ (Hv.out.below HB4.out)).mono ?_
  rintro e w5 ⟨rfl, hb⟩
  have HB5 := Lib.hid (bot HB4.out hb)
  have Hra_5 := Lib.hid ((hb.block _ (Array.getElem?_eq_some_iff.1 Hra_4.out).1).trans Hra_4.out)
  have Hpa_5 := Lib.hid (Hpa_4.out.keep hb)
  have Hrb_5 := Lib.hid ((hb.block _ (Array.getElem?_eq_some_iff.1 Hrb_4.out).1).trans Hrb_4.out)
  have Hpb_5 := Lib.hid (Hpb_4.out.keep hb)
  clear HB4 Hra_4 Hpa_4 Hrb_4 Hpb_4
  clear hb
  clear HPa HPb
  cases bp with
  | false =>
    have hk := Hnoa.out rfl
    subst hk
    obtain ⟨⟨a0, a1, a2, a3, a4, a5, a6⟩, _⟩ := row7 Hra_5.out
    obtain ⟨⟨b0, b1, b2, b3, b4, b5, b6⟩, _⟩ := row7 Hrb_5.out
    go_wp2_with fail
    refine (HMa.out _ (Hv.out.below HB5.out) _ _ Hpa_5.out).mono ?_
    rintro e w6 ⟨rfl, hb⟩
    clear a0 a1 a2 a3 a4 a5 a6 b0 b1 b2 b3 b4 b5 b6
    have HB6 := Lib.hid (bot HB5.out hb)
    have Hra_6 := Lib.hid ((hb.block _ (Array.getElem?_eq_some_iff.1 Hra_5.out).1).trans Hra_5.out)
    have Hpa_6 := Lib.hid (Hpa_5.out.keep hb)
    have Hrb_6 := Lib.hid ((hb.block _ (Array.getElem?_eq_some_iff.1 Hrb_5.out).1).trans Hrb_5.out)
    have Hpb_6 := Lib.hid (Hpb_5.out.keep hb)
    clear HB5 Hra_5 Hpa_5 Hrb_5 Hpb_5
    clear hb
    clear HMa
    cases bq with
    | false =>
      have hk2 := Hnob.out rfl
      subst hk2
      clear HE Hnoa Hyesa Hnob Hyesb
      obtain ⟨⟨a0, a1, a2, a3, a4, a5, a6⟩, _⟩ := row7 Hra_6.out
      obtain ⟨⟨b0, b1, b2, b3, b4, b5, b6⟩, _⟩ := row7 Hrb_6.out
      go_wp2_with fail
      refine (HMb.out _ (Hv.out.below HB6.out) _ _ Hpb_6.out).mono ?_
      rintro e w7 ⟨rfl, hb⟩
      clear a0 a1 a2 a3 a4 a5 a6 b0 b1 b2 b3 b4 b5 b6
      have HB7 := Lib.hid (bot HB6.out hb)
      have Hra_7 := Lib.hid ((hb.block _ (Array.getElem?_eq_some_iff.1 Hra_6.out).1).trans Hra_6.out)
      have Hpa_7 := Lib.hid (Hpa_6.out.keep hb)
      have Hrb_7 := Lib.hid ((hb.block _ (Array.getElem?_eq_some_iff.1 Hrb_6.out).1).trans Hrb_6.out)
      have Hpb_7 := Lib.hid (Hpb_6.out.keep hb)
      clear HB6 Hra_6 Hpa_6 Hrb_6 Hpb_6
      clear hb
      go_wp2_with fail
      go_ret
      exact ⟨rfl, HB7.out⟩
    | true =>
      obtain ⟨hs2, hk2⟩ := Hyesb.out rfl
      subst hk2
      clear hs2
      clear HE Hnoa Hyesa Hnob Hyesb
      obtain ⟨⟨a0, a1, a2, a3, a4, a5, a6⟩, _⟩ := row7 Hra_6.out
      obtain ⟨⟨b0, b1, b2, b3, b4, b5, b6⟩, _⟩ := row7 Hrb_6.out
      go_wp2_with fail
      refine (HMb.out _ (Hv.out.below HB6.out) _ _ Hpb_6.out).mono ?_
      rintro e w7 ⟨rfl, hb⟩
      clear a0 a1 a2 a3 a4 a5 a6 b0 b1 b2 b3 b4 b5 b6
      have HB7 := Lib.hid (bot HB6.out hb)
      have Hra_7 := Lib.hid ((hb.block _ (Array.getElem?_eq_some_iff.1 Hra_6.out).1).trans Hra_6.out)
      have Hpa_7 := Lib.hid (Hpa_6.out.keep hb)
      have Hrb_7 := Lib.hid ((hb.block _ (Array.getElem?_eq_some_iff.1 Hrb_6.out).1).trans Hrb_6.out)
      have Hpb_7 := Lib.hid (Hpb_6.out.keep hb)
      clear HB6 Hra_6 Hpa_6 Hrb_6 Hpb_6
      clear hb
      go_wp2_with fail
      go_ret
      exact ⟨rfl, HB7.out⟩
  | true =>
    obtain ⟨hs1, hk1⟩ := Hyesa.out rfl
    subst hk1
    clear hs1
    obtain ⟨⟨a0, a1, a2, a3, a4, a5, a6⟩, _⟩ := row7 Hra_5.out
    obtain ⟨⟨b0, b1, b2, b3, b4, b5, b6⟩, _⟩ := row7 Hrb_5.out
    go_wp2_with fail
    refine (HMa.out _ (Hv.out.below HB5.out) _ _ Hpa_5.out).mono ?_
    rintro e w6 ⟨rfl, hb⟩
    clear a0 a1 a2 a3 a4 a5 a6 b0 b1 b2 b3 b4 b5 b6
    have HB6 := Lib.hid (bot HB5.out hb)
    have Hra_6 := Lib.hid ((hb.block _ (Array.getElem?_eq_some_iff.1 Hra_5.out).1).trans Hra_5.out)
    have Hpa_6 := Lib.hid (Hpa_5.out.keep hb)
    have Hrb_6 := Lib.hid ((hb.block _ (Array.getElem?_eq_some_iff.1 Hrb_5.out).1).trans Hrb_5.out)
    have Hpb_6 := Lib.hid (Hpb_5.out.keep hb)
    clear HB5 Hra_5 Hpa_5 Hrb_5 Hpb_5
    clear hb
    clear HMa
    cases bq with
    | false =>
      have hk2 := Hnob.out rfl
      subst hk2
      clear HE Hnoa Hyesa Hnob Hyesb
      obtain ⟨⟨a0, a1, a2, a3, a4, a5, a6⟩, _⟩ := row7 Hra_6.out
      obtain ⟨⟨b0, b1, b2, b3, b4, b5, b6⟩, _⟩ := row7 Hrb_6.out
      go_wp2_with fail
      refine (HMb.out _ (Hv.out.below HB6.out) _ _ Hpb_6.out).mono ?_
      rintro e w7 ⟨rfl, hb⟩
      clear a0 a1 a2 a3 a4 a5 a6 b0 b1 b2 b3 b4 b5 b6
      have HB7 := Lib.hid (bot HB6.out hb)
      have Hra_7 := Lib.hid ((hb.block _ (Array.getElem?_eq_some_iff.1 Hra_6.out).1).trans Hra_6.out)
      have Hpa_7 := Lib.hid (Hpa_6.out.keep hb)
      have Hrb_7 := Lib.hid ((hb.block _ (Array.getElem?_eq_some_iff.1 Hrb_6.out).1).trans Hrb_6.out)
      have Hpb_7 := Lib.hid (Hpb_6.out.keep hb)
      clear HB6 Hra_6 Hpa_6 Hrb_6 Hpb_6
      clear hb
      go_wp2_with fail
      go_ret
      exact ⟨rfl, HB7.out⟩
    | true =>
      obtain ⟨hs2, hk2⟩ := Hyesb.out rfl
      subst hk2
      clear hs2
      have hse := HE.out (by first | rfl | trivial) (by first | rfl | trivial)
      clear HE Hnoa Hyesa Hnob Hyesb
      obtain ⟨⟨a0, a1, a2, a3, a4, a5, a6⟩, _⟩ := row7 Hra_6.out
      obtain ⟨⟨b0, b1, b2, b3, b4, b5, b6⟩, _⟩ := row7 Hrb_6.out
      go_wp2_with fail
      refine (HMb.out _ (Hv.out.below HB6.out) _ _ Hpb_6.out).mono ?_
      rintro e w7 ⟨rfl, hb⟩
      clear a0 a1 a2 a3 a4 a5 a6 b0 b1 b2 b3 b4 b5 b6
      have HB7 := Lib.hid (bot HB6.out hb)
      have Hra_7 := Lib.hid ((hb.block _ (Array.getElem?_eq_some_iff.1 Hra_6.out).1).trans Hra_6.out)
      have Hpa_7 := Lib.hid (Hpa_6.out.keep hb)
      have Hrb_7 := Lib.hid ((hb.block _ (Array.getElem?_eq_some_iff.1 Hrb_6.out).1).trans Hrb_6.out)
      have Hpb_7 := Lib.hid (Hpb_6.out.keep hb)
      clear HB6 Hra_6 Hpa_6 Hrb_6 Hpb_6
      clear hb
      have hrr : (r == r) = true := by simp
      obtain ⟨⟨a0, a1, a2, a3, a4, a5, a6⟩, _⟩ := row7 Hra_7.out
      obtain ⟨⟨b0, b1, b2, b3, b4, b5, b6⟩, _⟩ := row7 Hrb_7.out
      go_wp2_with fail
      refine (HSm.out _ _ _ _ _ Hpa_7.out Hpb_7.out).mono ?_
      rintro e w8 ⟨rfl, hb⟩
      clear a0 a1 a2 a3 a4 a5 a6 b0 b1 b2 b3 b4 b5 b6
      have HB8 := Lib.hid (bot HB7.out hb)
      have Hra_8 := Lib.hid ((hb.block _ (Array.getElem?_eq_some_iff.1 Hra_7.out).1).trans Hra_7.out)
      have Hpa_8 := Lib.hid (Hpa_7.out.keep hb)
      have Hrb_8 := Lib.hid ((hb.block _ (Array.getElem?_eq_some_iff.1 Hrb_7.out).1).trans Hrb_7.out)
      have Hpb_8 := Lib.hid (Hpb_7.out.keep hb)
      clear HB7 Hra_7 Hpa_7 Hrb_7 Hpb_7
      clear hb
      go_wp2_with fail
      go_ret
      exact ⟨rfl, HB8.out⟩


set_option maxHeartbeats 8000000 in
set_option maxRecDepth 100000 in
theorem packMay_law (p q : Pack) (u v : Value) (w : World) (hv : Vok w) (hp : PackV w (fun b => b < w.heap.size) p u) (hq : PackV w (fun b => b < w.heap.size) q v) :
    Calls Tryz.prog 3 #[u, v] w fun e w' => e = .returned (.bool true) ∧ Below w.heap.size w w' := by
  have Hv := Lib.hid hv
  have Hp := Lib.hid hp
  have Hq := Lib.hid hq
  obtain ⟨Aa, na, ca, Ba, ma, da, Ca, ka, ea, rfl, hza, _, _, _⟩ := id hp
  obtain ⟨Ab, nb, cb, Bb, mb, db, Cb, kb, eb, rfl, hzb, _, _, _⟩ := id hq
  have HM1 : Hid (∀ W, Vok W → ∀ S u, PackV W S p u → Calls Tryz.prog 14 #[u] W fun e w' => e = .returned (.bool (packB p)) ∧ Below W.heap.size W w') := fun W hW S u hu => packMay_any p u W S hW.tab hu
  have HM2 : Hid (∀ W S u, PackV W S p u → Calls Tryz.prog 15 #[u] W fun e w' => e = .returned (.bool (packB p)) ∧ Below W.heap.size W w') := fun W S u hu => refPackMay_any p u W S hu
  have HS1 : Hid (∀ W S T u v, PackV W S p u → PackV W T q v → Calls Tryz.prog 16 #[u, v] W fun e w' => e = .returned (.bool (eqB p q)) ∧ Below W.heap.size W w') := fun W S T u v h1 h2 => packSame_any p q u v W S T h1 h2
  have HS2 : Hid (∀ W S T u v, PackV W S p u → PackV W T q v → Calls Tryz.prog 17 #[u, v] W fun e w' => e = .returned (.bool (eqB p q)) ∧ Below W.heap.size W w') := fun W S T u v h1 h2 => refSame_any p q u v W S T h1 h2
  generalize packB p = bp at *
  generalize eqB p q = r at *
  have hb1 : (bp == bp) = true := by simp
  have hr1 : (r == r) = true := by simp
  have HB0 : Hid (Below w.heap.size w w) := Below.refl _ _
  clear hv hp hq
  go_enter Tryz.func3, Tryz.ntmps3
  go_wp2_with fail
  obtain ⟨w1, hw1⟩ : ∃ w1, w1 = w.alloc (.cells #[.string p.name, .int .i64 p.ver.major, .int .i64 p.ver.minor, .int .i64 p.ver.patch, .slice Aa na ca, .slice Ba ma da, .slice Ca ka ea] 26) := ⟨_, rfl⟩
  have hn : w1.heap[w.heap.size]? = some (.cells #[.string p.name, .int .i64 p.ver.major, .int .i64 p.ver.minor, .int .i64 p.ver.patch, .slice Aa na ca, .slice Ba ma da, .slice Ca ka ea] 26 (0, 0)) := by rw [hw1]; exact heap_alloc_new w _
  have hb : Below w.heap.size w w1 := by rw [hw1]; exact bal (Below.refl _ _) _
  have hzz : w.heap.size + 1 = w1.heap.size := by rw [hw1]; simp
  rw [← hw1]
  try rw [hzz]
  clear hw1 hzz
  have Hpn := Lib.hid ((Hp.out).keep hb)
  have HB1 := Lib.hid (bot HB0.out hb)
  clear HB0
  have Hra_1 := Lib.hid hn
  have Hpa_1 := Hpn
  clear hn hb Hpn
  obtain ⟨w2, hw2⟩ : ∃ w2, w2 = w1.alloc (.cells #[.string q.name, .int .i64 q.ver.major, .int .i64 q.ver.minor, .int .i64 q.ver.patch, .slice Ab nb cb, .slice Bb mb db, .slice Cb kb eb] 26) := ⟨_, rfl⟩
  have hn : w2.heap[w1.heap.size]? = some (.cells #[.string q.name, .int .i64 q.ver.major, .int .i64 q.ver.minor, .int .i64 q.ver.patch, .slice Ab nb cb, .slice Bb mb db, .slice Cb kb eb] 26 (0, 0)) := by rw [hw2]; exact heap_alloc_new w1 _
  have hb : Below w1.heap.size w1 w2 := by rw [hw2]; exact bal (Below.refl _ _) _
  have hzz : w1.heap.size + 1 = w2.heap.size := by rw [hw2]; simp
  rw [← hw2]
  try rw [hzz]
  clear hw2 hzz
  have Hpn := Lib.hid ((Hq.out.keep HB1.out).keep hb)
  have HB2 := Lib.hid (bot HB1.out hb)
  have Hra_2 := Lib.hid ((hb.block _ (Array.getElem?_eq_some_iff.1 Hra_1.out).1).trans Hra_1.out)
  have Hpa_2 := Lib.hid (Hpa_1.out.keep hb)
  clear HB1 Hra_1 Hpa_1
  have Hrb_2 := Lib.hid hn
  have Hpb_2 := Hpn
  clear hn hb Hpn
  clear Hp Hq
  have C1 := Lib.hid (qcall (fun W hW => HM1.out W (Hv.out.below (bot HB2.out hW)) _ _ (Hpa_2.out.keep hW)))
  have C2 := Lib.hid (qcall (fun W hW => HM2.out W _ _ (Hpa_2.out.keep hW)))
  have C3 := Lib.hid (qcall (fun W hW => HS1.out W _ _ _ _ (Hpa_2.out.keep hW) (Hpb_2.out.keep hW)))
  have C4 := Lib.hid (qcall (fun W hW => HS2.out W _ _ _ _ (Hpa_2.out.keep hW) (Hpb_2.out.keep hW)))
  have C5 := Lib.hid (qcall (fun W hW => packSame_yes p _ _ W _ _ (Hpa_2.out.keep hW) (Hpa_2.out.keep hW)))
  have C6 := Lib.hid (qcall (fun W hW => known05_any W (Hv.out.below (bot HB2.out hW))))
  obtain ⟨⟨a0, a1, a2, a3, a4, a5, a6⟩, _⟩ := row7 Hra_2.out
  obtain ⟨⟨b0, b1, b2, b3, b4, b5, b6⟩, _⟩ := row7 Hrb_2.out
  have r_a0 := cell_regrown a0
  have r_a1 := cell_regrown a1
  have r_a2 := cell_regrown a2
  have r_a3 := cell_regrown a3
  have r_a4 := cell_regrown a4
  have r_a5 := cell_regrown a5
  have r_a6 := cell_regrown a6
  have r_b0 := cell_regrown b0
  have r_b1 := cell_regrown b1
  have r_b2 := cell_regrown b2
  have r_b3 := cell_regrown b3
  have r_b4 := cell_regrown b4
  have r_b5 := cell_regrown b5
  have r_b6 := cell_regrown b6
  go_wp2_with fail
  refine wp_region_qb (by kernel_rfl) (by kernel_rfl) ?_
  repeat (go_big_quiet_step (first | (with_reducible exact C1.out _ _) | (with_reducible exact C2.out _ _) | (with_reducible exact C3.out _ _) | (with_reducible exact C4.out _ _) | (with_reducible exact C5.out _ _) | (with_reducible exact C6.out _ _)))
  refine wpQuiet_nil ?_
  intro w9 B9
  go_wp2_with fail
  go_ret
  exact ⟨rfl, bot HB2.out B9⟩
end Go.Proofs.YtldjldkejjeamaaGreatDoor
