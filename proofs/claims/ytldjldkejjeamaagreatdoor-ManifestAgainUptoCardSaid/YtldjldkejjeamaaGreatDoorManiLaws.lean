/-
  The laws of manifests (ManifestMay, ManifestWrites, ManifestReads, ManifestTexts), walked. (Printed by gen_manilaw.py.)
-/
import Derived.Test.YtldjldkejjeamaaGreatDoorRefMani
set_option autoImplicit false
set_option relaxedAutoImplicit false
set_option linter.unusedVariables false
set_option linter.unusedSimpArgs false
namespace Go.Proofs.YtldjldkejjeamaaGreatDoor
open Go.Rows Go.RowKit Go.Shelf Go.Sort

theorem maniSame_yes (p : Mani) (v u : Value) (w : World) (S T : Nat → Prop) (hp : ManiV w S p v) (hq : ManiV w T p u) : Calls Tryz.prog 29 #[v, u] w fun e w' => e = .returned (.bool true) ∧ Below w.heap.size w w' := by
  have := maniSame_any p p v u w S T hp hq
  rw [eqB_true rfl] at this
  exact this
theorem refManiSame_yes (p : Mani) (v u : Value) (w : World) (S T : Nat → Prop) (hp : ManiV w S p v) (hq : ManiV w T p u) : Calls Tryz.prog 30 #[v, u] w fun e w' => e = .returned (.bool true) ∧ Below w.heap.size w w' := by
  have := refManiSame_any p p v u w S T hp hq
  rw [eqB_true rfl] at this
  exact this
theorem maniQ_text {p : Mani} (h : maniB p = true) : maniQ (maniText p) = (p, 0) := by unfold maniQ; rw [mani_text h]
theorem maniText_size {p : Mani} (h : maniB p = true) : (maniText p).size ≤ 4096 := by
  unfold maniB at h
  simp only [Bool.and_eq_true, decide_eq_true_eq] at h
  exact h.2.2.2.2.2
/-! ### the manifest whose text is fixed -/
def kMani : Mani := ⟨[⟨⟨#[97]⟩, [⟨⟨1, 0, 0⟩, ⟨1, 0, 0⟩⟩]⟩], [], [], [⟨⟨#[98]⟩, [⟨⟨0, 0, 0⟩, ⟨999, 999, 999⟩⟩]⟩]⟩
def kManT : ByteArray := ⟨#[112, 114, 111, 106, 101, 99, 116, 10, 110, 101, 101, 100, 115, 32, 97, 32, 49, 46, 48, 46, 48, 10, 112, 105, 110, 115, 32, 98, 32, 42, 10]⟩
theorem kMan_text : maniText kMani = kManT := by decide +kernel
theorem kMan_ok : maniB kMani = true := by
  unfold maniB
  have h1 : nodupB (allNames [kMani.deps, kMani.dev, kMani.opts]) = true := nodupB_true (by simp [allNames, namesOf, kMani])
  have h2 : listB kMani.deps = true := by decide +kernel
  have h3 : listB kMani.dev = true := by decide +kernel
  have h4 : listB kMani.opts = true := by decide +kernel
  have h5 : listB kMani.over = true := by decide +kernel
  have h6 : decide ((maniText kMani).size ≤ 4096) = true := by decide +kernel
  rw [h1, h2, h3, h4, h5, h6]
  rfl
theorem kMan_read : maniQ kManT = (kMani, 0) := by rw [← kMan_text]; exact maniQ_text kMan_ok
theorem kMan_told : maniP kMani = (kManT, 0) := by unfold maniP; rw [if_pos kMan_ok, kMan_text]
set_option maxHeartbeats 1600000 in
set_option maxRecDepth 100000 in
theorem known06_any (w : World) (hv : Vok w) : Calls Tryz.prog 31 #[] w fun e w' => e = .returned (.bool true) ∧ Below w.heap.size w w' := by
  have HP := Lib.hid (maniParseO_any kManT w hv (by decide))
  rw [kMan_read] at HP
  simp only at HP
  unfold kManT at HP
  have HPr : Hid (∀ W S u, Below w.heap.size w W → ManiV W S kMani u → Calls Tryz.prog 32 #[u] W fun e w' => e = .returned (.tuple #[.string ⟨#[112, 114, 111, 106, 101, 99, 116, 10, 110, 101, 101, 100, 115, 32, 97, 32, 49, 46, 48, 46, 48, 10, 112, 105, 110, 115, 32, 98, 32, 42, 10]⟩, .int .i64 0]) ∧ Below W.heap.size W w') := fun W S u hW hu => by
    have := maniPrint_any kMani u W S (hv.below hW).tab hu
    rw [kMan_told] at this
    exact this
  have HM : Hid (∀ W S u, Below w.heap.size w W → ManiV W S kMani u → Calls Tryz.prog 27 #[u] W fun e w' => e = .returned (.bool true) ∧ Below W.heap.size W w') := fun W S u hW hu => by
    have := maniMay_any kMani u W S (hv.below hW).tab hu
    rw [kMan_ok] at this
    exact this
  clear hv
  go_enter Tryz.func31, Tryz.ntmps31
  go_wp2_with fail
  refine HP.out.mono ?_
  rintro e w1 ⟨u, rfl, hu, hb1⟩
  have hpv := hu.maniV
  obtain ⟨A0, n0, c0, A1, n1, c1, A2, n2, c2, A3, n3, c3, rfl, h0, h1, h2, h3⟩ := id hpv
  have e0 : n0 = 1 := h0.n_eq
  have e1 : n1 = 0 := h1.n_eq
  have e2 : n2 = 0 := h2.n_eq
  have e3 : n3 = 1 := h3.n_eq
  subst e0 e1 e2 e3
  have Hpv := Lib.hid hpv
  have HB1 := Lib.hid hb1
  clear hu hb1 hpv h0 h1 h2 h3 HP
  go_upto_region 2 with (fail)
  obtain ⟨w2, hw2⟩ : ∃ w2, w2 = w1.alloc (.cells #[.slice A0 1 c0, .slice A1 0 c1, .slice A2 0 c2, .slice A3 1 c3] 47) := ⟨_, rfl⟩
  have hr2 : w2.heap[w1.heap.size]? = some (.cells #[.slice A0 1 c0, .slice A1 0 c1, .slice A2 0 c2, .slice A3 1 c3] 47 (0, 0)) := by rw [hw2]; exact heap_alloc_new w1 _
  have hb2 : Below w1.heap.size w1 w2 := by rw [hw2]; exact bal (Below.refl _ _) _
  have HB2 := Lib.hid (bot HB1.out hb2)
  have Hpv2 := Lib.hid (Hpv.out.keep hb2)
  obtain ⟨⟨a0, a1, a2, a3⟩, _⟩ := row4 hr2
  have hz2 : w1.heap.size < w2.heap.size := (Array.getElem?_eq_some_iff.1 hr2).1
  rw [← hw2]
  clear hw2 hb2 Hpv HB1
  go_wp2_with fail
  refine (HPr.out w2 _ _ HB2.out Hpv2.out).mono ?_
  rintro e w3 ⟨rfl, hb3⟩
  have HB3 := Lib.hid (bot HB2.out hb3)
  have Hpv3 := Lib.hid (Hpv2.out.keep hb3)
  have hr3 := (hb3.block _ hz2).trans hr2
  obtain ⟨⟨b0, b1, b2, b3⟩, _⟩ := row4 hr3
  have hz3 : w1.heap.size < w3.heap.size := (Array.getElem?_eq_some_iff.1 hr3).1
  clear hb3 a0 a1 a2 a3 hr2 hz2 Hpv2 HB2 HPr
  go_wp2_with fail
  refine (HM.out w3 _ _ HB3.out Hpv3.out).mono ?_
  rintro e w4 ⟨rfl, hb4⟩
  have HB4 := Lib.hid (bot HB3.out hb4)
  have Hpv4 := Lib.hid (Hpv3.out.keep hb4)
  have hr4 := (hb4.block _ hz3).trans hr3
  obtain ⟨⟨a0, a1, a2, a3⟩, _⟩ := row4 hr4
  clear hb4 b0 b1 b2 b3 hr3 hz3 hr4 Hpv3 HB3 HM
  go_wp2_with fail
  refine (maniSame_yes kMani _ _ w4 _ _ Hpv4.out Hpv4.out).mono ?_
  rintro e w5 ⟨rfl, hb5⟩
  go_wp2_with fail
  go_ret
  exact ⟨rfl, bot HB4.out hb5⟩

set_option maxHeartbeats 8000000 in
set_option maxRecDepth 100000 in
theorem maniReads_law (t : ByteArray) (w : World) (hv : Vok w) (ht : t.size ≤ 1048576) :
    Calls Tryz.prog 11 #[.string t] w fun e w' => e = .returned (.bool true) ∧ Below w.heap.size w w' := by
  obtain ⟨p, k, hQ⟩ : ∃ p k, maniQ t = (p, k) := ⟨_, _, rfl⟩
  have HP := Lib.hid (maniParseO_any t w hv (by omega))
  have HF := Lib.hid (fun W => refManiParse_any t W (by omega))
  rw [hQ] at HP HF
  simp only at HP HF
  have Hv := Lib.hid hv
  clear hv hQ
  have HB0 : Hid (Below w.heap.size w w) := Below.refl _ _
  have hkk : (k == k) = true := by simp
  go_enter Tryz.func11, Tryz.ntmps11
  go_wp2_with fail
  refine HP.out.mono ?_
  rintro e w1 ⟨u, rfl, hu, hb⟩
  have hv1 := hu.maniV
  obtain ⟨Aa0, na0, ca0, Aa1, na1, ca1, Aa2, na2, ca2, Aa3, na3, ca3, rfl, _, _, _, _⟩ := id hv1
  have Hv1 := Lib.hid hv1
  clear hu hv1 HP
  have HB1 := Lib.hid (bot HB0.out hb)
  clear HB0
  clear hb
  go_upto_region 2 with (fail)
  obtain ⟨w2, hw2⟩ : ∃ w2, w2 = w1.alloc (.cells #[.slice Aa0 na0 ca0, .slice Aa1 na1 ca1, .slice Aa2 na2 ca2, .slice Aa3 na3 ca3] 47) := ⟨_, rfl⟩
  have hn : w2.heap[w1.heap.size]? = some (.cells #[.slice Aa0 na0 ca0, .slice Aa1 na1 ca1, .slice Aa2 na2 ca2, .slice Aa3 na3 ca3] 47 (0, 0)) := by rw [hw2]; exact heap_alloc_new w1 _
  have hb : Below w1.heap.size w1 w2 := by rw [hw2]; exact bal (Below.refl _ _) _
  have hzz : w1.heap.size + 1 = w2.heap.size := by rw [hw2]; simp
  rw [← hw2]
  try rw [hzz]
  clear hw2 hzz
  have Hpn := Lib.hid ((Hv1.out).keep hb)
  have HB2 := Lib.hid (bot HB1.out hb)
  clear HB1
  have Hra_2 := Lib.hid hn
  have Hpa_2 := Hpn
  clear hn hb Hpn
  clear Hv1
  go_wp2_with fail
  refine (HF.out _).mono ?_
  rintro e w3 ⟨u, rfl, hv1, hb⟩
  obtain ⟨Ab0, nb0, cb0, Ab1, nb1, cb1, Ab2, nb2, cb2, Ab3, nb3, cb3, rfl, _, _, _, _⟩ := id hv1
  have Hv1 := Lib.hid hv1
  clear hv1 HF
  have HB3 := Lib.hid (bot HB2.out hb)
  have Hra_3 := Lib.hid ((hb.block _ (Array.getElem?_eq_some_iff.1 Hra_2.out).1).trans Hra_2.out)
  have Hpa_3 := Lib.hid (Hpa_2.out.keep hb)
  clear HB2 Hra_2 Hpa_2
  clear hb
  go_upto_region 3 with (fail)
  obtain ⟨w4, hw4⟩ : ∃ w4, w4 = w3.alloc (.cells #[.slice Ab0 nb0 cb0, .slice Ab1 nb1 cb1, .slice Ab2 nb2 cb2, .slice Ab3 nb3 cb3] 47) := ⟨_, rfl⟩
  have hn : w4.heap[w3.heap.size]? = some (.cells #[.slice Ab0 nb0 cb0, .slice Ab1 nb1 cb1, .slice Ab2 nb2 cb2, .slice Ab3 nb3 cb3] 47 (0, 0)) := by rw [hw4]; exact heap_alloc_new w3 _
  have hb : Below w3.heap.size w3 w4 := by rw [hw4]; exact bal (Below.refl _ _) _
  have hzz : w3.heap.size + 1 = w4.heap.size := by rw [hw4]; simp
  rw [← hw4]
  try rw [hzz]
  clear hw4 hzz
  have Hpn := Lib.hid ((Hv1.out).keep hb)
  have HB4 := Lib.hid (bot HB3.out hb)
  have Hra_4 := Lib.hid ((hb.block _ (Array.getElem?_eq_some_iff.1 Hra_3.out).1).trans Hra_3.out)
  have Hpa_4 := Lib.hid (Hpa_3.out.keep hb)
  clear HB3 Hra_3 Hpa_3
  have Hrb_4 := Lib.hid hn
  have Hpb_4 := Hpn
  clear hn hb Hpn
  clear Hv1
  obtain ⟨⟨a0, a1, a2, a3⟩, _⟩ := row4 Hra_4.out
  obtain ⟨⟨b0, b1, b2, b3⟩, _⟩ := row4 Hrb_4.out
  go_wp2_with fail
  refine (refManiSame_yes p _ _ w4 _ _ Hpa_4.out Hpb_4.out).mono ?_
  rintro e w5 ⟨rfl, hb⟩
  clear a0 a1 a2 a3 b0 b1 b2 b3
  have HB5 := Lib.hid (bot HB4.out hb)
  have Hra_5 := Lib.hid ((hb.block _ (Array.getElem?_eq_some_iff.1 Hra_4.out).1).trans Hra_4.out)
  have Hpa_5 := Lib.hid (Hpa_4.out.keep hb)
  have Hrb_5 := Lib.hid ((hb.block _ (Array.getElem?_eq_some_iff.1 Hrb_4.out).1).trans Hrb_4.out)
  have Hpb_5 := Lib.hid (Hpb_4.out.keep hb)
  clear HB4 Hra_4 Hpa_4 Hrb_4 Hpb_4
  clear hb
  go_wp2_with fail
  refine (known06_any _ (Hv.out.below HB5.out)).mono ?_
  rintro e w6 ⟨rfl, hb⟩
  have HB6 := Lib.hid (bot HB5.out hb)
  have Hra_6 := Lib.hid ((hb.block _ (Array.getElem?_eq_some_iff.1 Hra_5.out).1).trans Hra_5.out)
  have Hpa_6 := Lib.hid (Hpa_5.out.keep hb)
  have Hrb_6 := Lib.hid ((hb.block _ (Array.getElem?_eq_some_iff.1 Hrb_5.out).1).trans Hrb_5.out)
  have Hpb_6 := Lib.hid (Hpb_5.out.keep hb)
  clear HB5 Hra_5 Hpa_5 Hrb_5 Hpb_5
  clear hb
  go_wp2_with fail
  go_ret
  exact ⟨rfl, HB6.out⟩


set_option maxHeartbeats 8000000 in
set_option maxRecDepth 100000 in
theorem maniWrites_law (p : Mani) (u : Value) (w : World) (hv : Vok w) (hp : ManiV w (fun b => b < w.heap.size) p u) :
    Calls Tryz.prog 10 #[u] w fun e w' => e = .returned (.bool true) ∧ Below w.heap.size w w' := by
  have Hv := Lib.hid hv
  have Hp := Lib.hid hp
  obtain ⟨Aa0, na0, ca0, Aa1, na1, ca1, Aa2, na2, ca2, Aa3, na3, ca3, rfl, _, _, _, _⟩ := id hp
  obtain ⟨s, k, hS⟩ : ∃ s k, maniP p = (s, k) := ⟨_, _, rfl⟩
  have HP : Hid (∀ W, Vok W → ∀ S u, ManiV W S p u → Calls Tryz.prog 32 #[u] W fun e w' => e = .returned (.tuple #[.string s, .int .i64 k]) ∧ Below W.heap.size W w') := fun W hW S u hu => by
    have := maniPrint_any p u W S hW.tab hu
    rw [hS] at this
    exact this
  have HR : Hid (∀ W S u, ManiV W S p u → Calls Tryz.prog 33 #[u] W fun e w' => e = .returned (.tuple #[.string s, .int .i64 k]) ∧ Below W.heap.size W w') := fun W S u hu => by
    have := refManiPrint_any p u W S hu
    rw [hS] at this
    exact this
  have Hno : Hid (maniB p = false → k = 25) := fun h => by unfold maniP at hS; rw [h] at hS; exact (Prod.mk.inj hS).2.symm
  have Hyes : Hid (maniB p = true → s = maniText p ∧ k = 0) := fun h => by unfold maniP at hS; rw [h] at hS; exact ⟨(Prod.mk.inj hS).1.symm, (Prod.mk.inj hS).2.symm⟩
  have HQ : Hid (maniB p = true → ∀ W, Vok W → Calls Tryz.prog 34 #[.string (maniText p)] W fun e w' => ∃ u, e = .returned (.tuple #[u, .int .i64 0]) ∧ ManiO w' W.heap.size p u ∧ Below W.heap.size W w') := fun h W hW => by
    have := maniParseO_any (maniText p) W hW (by have := maniText_size h; omega)
    rw [maniQ_text h] at this
    exact this
  have hss : (s.toList == s.toList) = true := by simp
  have hkk : (k != k) = false := by simp
  have HB0 : Hid (Below w.heap.size w w) := Below.refl _ _
  clear hv hp hS
  go_enter Tryz.func10, Tryz.ntmps10
  go_upto_region 1 with (fail)
  obtain ⟨w1, hw1⟩ : ∃ w1, w1 = w.alloc (.cells #[.slice Aa0 na0 ca0, .slice Aa1 na1 ca1, .slice Aa2 na2 ca2, .slice Aa3 na3 ca3] 47) := ⟨_, rfl⟩
  have hn : w1.heap[w.heap.size]? = some (.cells #[.slice Aa0 na0 ca0, .slice Aa1 na1 ca1, .slice Aa2 na2 ca2, .slice Aa3 na3 ca3] 47 (0, 0)) := by rw [hw1]; exact heap_alloc_new w _
  have hb : Below w.heap.size w w1 := by rw [hw1]; exact bal (Below.refl _ _) _
  have hzz : w.heap.size + 1 = w1.heap.size := by rw [hw1]; simp
  rw [← hw1]
  try rw [hzz]
  clear hw1 hzz
  have Hpn := Lib.hid ((Hp.out).keep hb)
  have HB1 := Lib.hid (bot HB0.out hb)
  clear HB0
  have Hra_1 := Lib.hid hn
  have Hpa_1 := Hpn
  clear hn hb Hpn
  clear Hp
  obtain ⟨⟨a0, a1, a2, a3⟩, _⟩ := row4 Hra_1.out
  go_wp2_with fail
  refine (HP.out _ (Hv.out.below HB1.out) _ _ Hpa_1.out).mono ?_
  rintro e w2 ⟨rfl, hb⟩
  clear a0 a1 a2 a3
  have HB2 := Lib.hid (bot HB1.out hb)
  have Hra_2 := Lib.hid ((hb.block _ (Array.getElem?_eq_some_iff.1 Hra_1.out).1).trans Hra_1.out)
  have Hpa_2 := Lib.hid (Hpa_1.out.keep hb)
  clear HB1 Hra_1 Hpa_1
  clear hb
  obtain ⟨⟨a0, a1, a2, a3⟩, _⟩ := row4 Hra_2.out
  go_wp2_with fail
  refine (HR.out _ _ _ Hpa_2.out).mono ?_
  rintro e w3 ⟨rfl, hb⟩
  clear a0 a1 a2 a3
  have HB3 := Lib.hid (bot HB2.out hb)
  have Hra_3 := Lib.hid ((hb.block _ (Array.getElem?_eq_some_iff.1 Hra_2.out).1).trans Hra_2.out)
  have Hpa_3 := Lib.hid (Hpa_2.out.keep hb)
  clear HB2 Hra_2 Hpa_2
  clear hb
  go_wp2_with fail
  refine (known06_any _ (Hv.out.below HB3.out)).mono ?_
  rintro e w4 ⟨rfl, hb⟩
  have HB4 := Lib.hid (bot HB3.out hb)
  have Hra_4 := Lib.hid ((hb.block _ (Array.getElem?_eq_some_iff.1 Hra_3.out).1).trans Hra_3.out)
  have Hpa_4 := Lib.hid (Hpa_3.out.keep hb)
  clear HB3 Hra_3 Hpa_3
  clear hb
  cases hB : maniB p with
  | false =>
    have hk := Hno.out hB
    subst hk
    clear hB Hno Hyes HQ HP HR
    go_wp2_with fail
    go_ret
    exact ⟨rfl, HB4.out⟩
  | true =>
  obtain ⟨rfl, rfl⟩ := Hyes.out hB
  have HQ' := Lib.hid (HQ.out hB)
  clear hB Hno Hyes HQ HP HR
  go_wp2_with fail
  refine (HQ'.out _ (Hv.out.below HB4.out)).mono ?_
  rintro e w5 ⟨u2, rfl, hu, hb⟩
  have hv1 := hu.maniV
  obtain ⟨Ab0, nb0, cb0, Ab1, nb1, cb1, Ab2, nb2, cb2, Ab3, nb3, cb3, rfl, _, _, _, _⟩ := id hv1
  have Hv1 := Lib.hid hv1
  clear hu hv1 HQ'
  have HB5 := Lib.hid (bot HB4.out hb)
  have Hra_5 := Lib.hid ((hb.block _ (Array.getElem?_eq_some_iff.1 Hra_4.out).1).trans Hra_4.out)
  have Hpa_5 := Lib.hid (Hpa_4.out.keep hb)
  clear HB4 Hra_4 Hpa_4
  clear hb
  go_upto_region 8 with (fail)
  obtain ⟨w6, hw6⟩ : ∃ w6, w6 = w5.alloc (.cells #[.slice Ab0 nb0 cb0, .slice Ab1 nb1 cb1, .slice Ab2 nb2 cb2, .slice Ab3 nb3 cb3] 47) := ⟨_, rfl⟩
  have hn : w6.heap[w5.heap.size]? = some (.cells #[.slice Ab0 nb0 cb0, .slice Ab1 nb1 cb1, .slice Ab2 nb2 cb2, .slice Ab3 nb3 cb3] 47 (0, 0)) := by rw [hw6]; exact heap_alloc_new w5 _
  have hb : Below w5.heap.size w5 w6 := by rw [hw6]; exact bal (Below.refl _ _) _
  have hzz : w5.heap.size + 1 = w6.heap.size := by rw [hw6]; simp
  rw [← hw6]
  try rw [hzz]
  clear hw6 hzz
  have Hpn := Lib.hid ((Hv1.out).keep hb)
  have HB6 := Lib.hid (bot HB5.out hb)
  have Hra_6 := Lib.hid ((hb.block _ (Array.getElem?_eq_some_iff.1 Hra_5.out).1).trans Hra_5.out)
  have Hpa_6 := Lib.hid (Hpa_5.out.keep hb)
  clear HB5 Hra_5 Hpa_5
  have Hrb_6 := Lib.hid hn
  have Hpb_6 := Hpn
  clear hn hb Hpn
  clear Hv1
  obtain ⟨⟨a0, a1, a2, a3⟩, _⟩ := row4 Hra_6.out
  obtain ⟨⟨b0, b1, b2, b3⟩, _⟩ := row4 Hrb_6.out
  go_wp2_with fail
  refine (refManiSame_yes p _ _ w6 _ _ Hpa_6.out Hpb_6.out).mono ?_
  rintro e w7 ⟨rfl, hb⟩
  clear a0 a1 a2 a3 b0 b1 b2 b3
  have HB7 := Lib.hid (bot HB6.out hb)
  have Hra_7 := Lib.hid ((hb.block _ (Array.getElem?_eq_some_iff.1 Hra_6.out).1).trans Hra_6.out)
  have Hpa_7 := Lib.hid (Hpa_6.out.keep hb)
  have Hrb_7 := Lib.hid ((hb.block _ (Array.getElem?_eq_some_iff.1 Hrb_6.out).1).trans Hrb_6.out)
  have Hpb_7 := Lib.hid (Hpb_6.out.keep hb)
  clear HB6 Hra_6 Hpa_6 Hrb_6 Hpb_6
  clear hb
  go_wp2_with fail
  go_ret
  exact ⟨rfl, HB7.out⟩


set_option maxHeartbeats 8000000 in
set_option maxRecDepth 100000 in
theorem maniTexts_law (p q : Mani) (u v : Value) (w : World) (hv : Vok w) (hp : ManiV w (fun b => b < w.heap.size) p u) (hq : ManiV w (fun b => b < w.heap.size) q v) :
    Calls Tryz.prog 13 #[u, v] w fun e w' => e = .returned (.bool true) ∧ Below w.heap.size w w' := by
  have Hv := Lib.hid hv
  have Hp := Lib.hid hp
  have Hq := Lib.hid hq
  obtain ⟨Aa0, na0, ca0, Aa1, na1, ca1, Aa2, na2, ca2, Aa3, na3, ca3, rfl, _, _, _, _⟩ := id hp
  obtain ⟨Ab0, nb0, cb0, Ab1, nb1, cb1, Ab2, nb2, cb2, Ab3, nb3, cb3, rfl, _, _, _, _⟩ := id hq
  obtain ⟨sat, kat, hSa⟩ : ∃ s k, maniP p = (s, k) := ⟨_, _, rfl⟩
  have HPa : Hid (∀ W, Vok W → ∀ S u, ManiV W S p u → Calls Tryz.prog 32 #[u] W fun e w' => e = .returned (.tuple #[.string sat, .int .i64 kat]) ∧ Below W.heap.size W w') := fun W hW S u hu => by
    have := maniPrint_any p u W S hW.tab hu
    rw [hSa] at this
    exact this
  have Hnoa : Hid (maniB p = false → kat = 25) := fun h => by unfold maniP at hSa; rw [h] at hSa; exact (Prod.mk.inj hSa).2.symm
  have Hyesa : Hid (maniB p = true → sat = maniText p ∧ kat = 0) := fun h => by unfold maniP at hSa; rw [h] at hSa; exact ⟨(Prod.mk.inj hSa).1.symm, (Prod.mk.inj hSa).2.symm⟩
  have HMa : Hid (∀ W, Vok W → ∀ S u, ManiV W S p u → Calls Tryz.prog 27 #[u] W fun e w' => e = .returned (.bool (maniB p)) ∧ Below W.heap.size W w') := fun W hW S u hu => maniMay_any p u W S hW.tab hu
  obtain ⟨sbt, kbt, hSb⟩ : ∃ s k, maniP q = (s, k) := ⟨_, _, rfl⟩
  have HPb : Hid (∀ W, Vok W → ∀ S u, ManiV W S q u → Calls Tryz.prog 32 #[u] W fun e w' => e = .returned (.tuple #[.string sbt, .int .i64 kbt]) ∧ Below W.heap.size W w') := fun W hW S u hu => by
    have := maniPrint_any q u W S hW.tab hu
    rw [hSb] at this
    exact this
  have Hnob : Hid (maniB q = false → kbt = 25) := fun h => by unfold maniP at hSb; rw [h] at hSb; exact (Prod.mk.inj hSb).2.symm
  have Hyesb : Hid (maniB q = true → sbt = maniText q ∧ kbt = 0) := fun h => by unfold maniP at hSb; rw [h] at hSb; exact ⟨(Prod.mk.inj hSb).1.symm, (Prod.mk.inj hSb).2.symm⟩
  have HMb : Hid (∀ W, Vok W → ∀ S u, ManiV W S q u → Calls Tryz.prog 27 #[u] W fun e w' => e = .returned (.bool (maniB q)) ∧ Below W.heap.size W w') := fun W hW S u hu => maniMay_any q u W S hW.tab hu
  have HE : Hid (maniB p = true → maniB q = true → (sat.toList == sbt.toList) = eqB p q) := fun h1 h2 => by
    obtain ⟨e1, _⟩ := Hyesa.out h1
    obtain ⟨e2, _⟩ := Hyesb.out h2
    rw [e1, e2, bytes_beq]
    by_cases h : p = q
    · rw [eqB_true h, decide_eq_true ((maniText_inj h1 h2).2 h)]
    · rw [eqB_false h, decide_eq_false (fun e => h ((maniText_inj h1 h2).1 e))]
  have HSm : Hid (∀ W S T u v, ManiV W S p u → ManiV W T q v → Calls Tryz.prog 29 #[u, v] W fun e w' => e = .returned (.bool (eqB p q)) ∧ Below W.heap.size W w') := fun W S T u v h1 h2 => maniSame_any p q u v W S T h1 h2
  generalize eqB p q = r at *
  generalize hBp : maniB p = bp at *
  generalize hBq : maniB q = bq at *
  have HB0 : Hid (Below w.heap.size w w) := Below.refl _ _
  clear hv hp hq hSa hSb hBp hBq
  go_enter Tryz.func13, Tryz.ntmps13
  go_upto_region 1 with (fail)
  obtain ⟨w1, hw1⟩ : ∃ w1, w1 = w.alloc (.cells #[.slice Aa0 na0 ca0, .slice Aa1 na1 ca1, .slice Aa2 na2 ca2, .slice Aa3 na3 ca3] 47) := ⟨_, rfl⟩
  have hn : w1.heap[w.heap.size]? = some (.cells #[.slice Aa0 na0 ca0, .slice Aa1 na1 ca1, .slice Aa2 na2 ca2, .slice Aa3 na3 ca3] 47 (0, 0)) := by rw [hw1]; exact heap_alloc_new w _
  have hb : Below w.heap.size w w1 := by rw [hw1]; exact bal (Below.refl _ _) _
  have hzz : w.heap.size + 1 = w1.heap.size := by rw [hw1]; simp
  rw [← hw1]
  try rw [hzz]
  clear hw1 hzz
  have Hpn := Lib.hid ((Hp.out).keep hb)
  have HB1 := Lib.hid (bot HB0.out hb)
  clear HB0
  have Hra_1 := Lib.hid hn
  have Hpa_1 := Hpn
  clear hn hb Hpn
  obtain ⟨w2, hw2⟩ : ∃ w2, w2 = w1.alloc (.cells #[.slice Ab0 nb0 cb0, .slice Ab1 nb1 cb1, .slice Ab2 nb2 cb2, .slice Ab3 nb3 cb3] 47) := ⟨_, rfl⟩
  have hn : w2.heap[w1.heap.size]? = some (.cells #[.slice Ab0 nb0 cb0, .slice Ab1 nb1 cb1, .slice Ab2 nb2 cb2, .slice Ab3 nb3 cb3] 47 (0, 0)) := by rw [hw2]; exact heap_alloc_new w1 _
  have hb : Below w1.heap.size w1 w2 := by rw [hw2]; exact bal (Below.refl _ _) _
  have hzz : w1.heap.size + 1 = w2.heap.size := by rw [hw2]; simp
  rw [← hw2]
  try rw [hzz]
  clear hw2 hzz
  have Hpn := Lib.hid ((Hq.out.keep HB1.out).keep hb)
  have HB2 := Lib.hid (bot HB1.out hb)
  have Hra_2 := Lib.hid ((hb.block _ (Array.getElem?_eq_some_iff.1 Hra_1.out).1).trans Hra_1.out)
  have Hpa_2 := Lib.hid (Hpa_1.out.keep hb)
  clear HB1 Hra_1 Hpa_1
  have Hrb_2 := Lib.hid hn
  have Hpb_2 := Hpn
  clear hn hb Hpn
  clear Hp Hq
  obtain ⟨⟨a0, a1, a2, a3⟩, _⟩ := row4 Hra_2.out
  obtain ⟨⟨b0, b1, b2, b3⟩, _⟩ := row4 Hrb_2.out
  go_wp2_with fail
  refine (HPa.out _ (Hv.out.below HB2.out) _ _ Hpa_2.out).mono ?_
  rintro e w3 ⟨rfl, hb⟩
  clear a0 a1 a2 a3 b0 b1 b2 b3
  have HB3 := Lib.hid (bot HB2.out hb)
  have Hra_3 := Lib.hid ((hb.block _ (Array.getElem?_eq_some_iff.1 Hra_2.out).1).trans Hra_2.out)
  have Hpa_3 := Lib.hid (Hpa_2.out.keep hb)
  have Hrb_3 := Lib.hid ((hb.block _ (Array.getElem?_eq_some_iff.1 Hrb_2.out).1).trans Hrb_2.out)
  have Hpb_3 := Lib.hid (Hpb_2.out.keep hb)
  clear HB2 Hra_2 Hpa_2 Hrb_2 Hpb_2
  clear hb
  obtain ⟨⟨a0, a1, a2, a3⟩, _⟩ := row4 Hra_3.out
  obtain ⟨⟨b0, b1, b2, b3⟩, _⟩ := row4 Hrb_3.out
  go_wp2_with fail
  refine (HPb.out _ (Hv.out.below HB3.out) _ _ Hpb_3.out).mono ?_
  rintro e w4 ⟨rfl, hb⟩
  clear a0 a1 a2 a3 b0 b1 b2 b3
  have HB4 := Lib.hid (bot HB3.out hb)
  have Hra_4 := Lib.hid ((hb.block _ (Array.getElem?_eq_some_iff.1 Hra_3.out).1).trans Hra_3.out)
  have Hpa_4 := Lib.hid (Hpa_3.out.keep hb)
  have Hrb_4 := Lib.hid ((hb.block _ (Array.getElem?_eq_some_iff.1 Hrb_3.out).1).trans Hrb_3.out)
  have Hpb_4 := Lib.hid (Hpb_3.out.keep hb)
  clear HB3 Hra_3 Hpa_3 Hrb_3 Hpb_3
  clear hb
  go_wp2_with fail
  refine (known06_any _ (Hv.out.below HB4.out)).mono ?_
  rintro e w5 ⟨rfl, hb⟩
  have HB5 := Lib.hid (bot HB4.out hb)
  have Hra_5 := Lib.hid ((hb.block _ (Array.getElem?_eq_some_iff.1 Hra_4.out).1).trans Hra_4.out)
  have Hpa_5 := Lib.hid (Hpa_4.out.keep hb)
  have Hrb_5 := Lib.hid ((hb.block _ (Array.getElem?_eq_some_iff.1 Hrb_4.out).1).trans Hrb_4.out)
  have Hpb_5 := Lib.hid (Hpb_4.out.keep hb)
  clear HB4 Hra_4 Hpa_4 Hrb_4 Hpb_4
  clear hb
  clear HPa HPb
  cases bp with
  | false =>
    have hk := Hnoa.out rfl
    subst hk
    obtain ⟨⟨a0, a1, a2, a3⟩, _⟩ := row4 Hra_5.out
    obtain ⟨⟨b0, b1, b2, b3⟩, _⟩ := row4 Hrb_5.out
    go_wp2_with fail
    refine (HMa.out _ (Hv.out.below HB5.out) _ _ Hpa_5.out).mono ?_
    rintro e w6 ⟨rfl, hb⟩
    clear a0 a1 a2 a3 b0 b1 b2 b3
    have HB6 := Lib.hid (bot HB5.out hb)
    have Hra_6 := Lib.hid ((hb.block _ (Array.getElem?_eq_some_iff.1 Hra_5.out).1).trans Hra_5.out)
    have Hpa_6 := Lib.hid (Hpa_5.out.keep hb)
    have Hrb_6 := Lib.hid ((hb.block _ (Array.getElem?_eq_some_iff.1 Hrb_5.out).1).trans Hrb_5.out)
    have Hpb_6 := Lib.hid (Hpb_5.out.keep hb)
    clear HB5 Hra_5 Hpa_5 Hrb_5 Hpb_5
    clear hb
    clear HMa
    cases bq with
    | false =>
      have hk2 := Hnob.out rfl
      subst hk2
      clear HE Hnoa Hyesa Hnob Hyesb
      obtain ⟨⟨a0, a1, a2, a3⟩, _⟩ := row4 Hra_6.out
      obtain ⟨⟨b0, b1, b2, b3⟩, _⟩ := row4 Hrb_6.out
      go_wp2_with fail
      refine (HMb.out _ (Hv.out.below HB6.out) _ _ Hpb_6.out).mono ?_
      rintro e w7 ⟨rfl, hb⟩
      clear a0 a1 a2 a3 b0 b1 b2 b3
      have HB7 := Lib.hid (bot HB6.out hb)
      have Hra_7 := Lib.hid ((hb.block _ (Array.getElem?_eq_some_iff.1 Hra_6.out).1).trans Hra_6.out)
      have Hpa_7 := Lib.hid (Hpa_6.out.keep hb)
      have Hrb_7 := Lib.hid ((hb.block _ (Array.getElem?_eq_some_iff.1 Hrb_6.out).1).trans Hrb_6.out)
      have Hpb_7 := Lib.hid (Hpb_6.out.keep hb)
      clear HB6 Hra_6 Hpa_6 Hrb_6 Hpb_6
      clear hb
      go_wp2_with fail
      go_ret
      exact ⟨rfl, HB7.out⟩
    | true =>
      obtain ⟨hs2, hk2⟩ := Hyesb.out rfl
      subst hk2
      clear hs2
      clear HE Hnoa Hyesa Hnob Hyesb
      obtain ⟨⟨a0, a1, a2, a3⟩, _⟩ := row4 Hra_6.out
      obtain ⟨⟨b0, b1, b2, b3⟩, _⟩ := row4 Hrb_6.out
      go_wp2_with fail
      refine (HMb.out _ (Hv.out.below HB6.out) _ _ Hpb_6.out).mono ?_
      rintro e w7 ⟨rfl, hb⟩
      clear a0 a1 a2 a3 b0 b1 b2 b3
      have HB7 := Lib.hid (bot HB6.out hb)
      have Hra_7 := Lib.hid ((hb.block _ (Array.getElem?_eq_some_iff.1 Hra_6.out).1).trans Hra_6.out)
      have Hpa_7 := Lib.hid (Hpa_6.out.keep hb)
      have Hrb_7 := Lib.hid ((hb.block _ (Array.getElem?_eq_some_iff.1 Hrb_6.out).1).trans Hrb_6.out)
      have Hpb_7 := Lib.hid (Hpb_6.out.keep hb)
      clear HB6 Hra_6 Hpa_6 Hrb_6 Hpb_6
      clear hb
      go_wp2_with fail
      go_ret
      exact ⟨rfl, HB7.out⟩
  | true =>
    obtain ⟨hs1, hk1⟩ := Hyesa.out rfl
    subst hk1
    clear hs1
    obtain ⟨⟨a0, a1, a2, a3⟩, _⟩ := row4 Hra_5.out
    obtain ⟨⟨b0, b1, b2, b3⟩, _⟩ := row4 Hrb_5.out
    go_wp2_with fail
    refine (HMa.out _ (Hv.out.below HB5.out) _ _ Hpa_5.out).mono ?_
    rintro e w6 ⟨rfl, hb⟩
    clear a0 a1 a2 a3 b0 b1 b2 b3
    have HB6 := Lib.hid (bot HB5.out hb)
    have Hra_6 := Lib.hid ((hb.block _ (Array.getElem?_eq_some_iff.1 Hra_5.out).1).trans Hra_5.out)
    have Hpa_6 := Lib.hid (Hpa_5.out.keep hb)
    have Hrb_6 := Lib.hid ((hb.block _ (Array.getElem?_eq_some_iff.1 Hrb_5.out).1).trans Hrb_5.out)
    have Hpb_6 := Lib.hid (Hpb_5.out.keep hb)
    clear HB5 Hra_5 Hpa_5 Hrb_5 Hpb_5
    clear hb
    clear HMa
    cases bq with
    | false =>
      have hk2 := Hnob.out rfl
      subst hk2
      clear HE Hnoa Hyesa Hnob Hyesb
      obtain ⟨⟨a0, a1, a2, a3⟩, _⟩ := row4 Hra_6.out
      obtain ⟨⟨b0, b1, b2, b3⟩, _⟩ := row4 Hrb_6.out
      go_wp2_with fail
      refine (HMb.out _ (Hv.out.below HB6.out) _ _ Hpb_6.out).mono ?_
      rintro e w7 ⟨rfl, hb⟩
      clear a0 a1 a2 a3 b0 b1 b2 b3
      have HB7 := Lib.hid (bot HB6.out hb)
      have Hra_7 := Lib.hid ((hb.block _ (Array.getElem?_eq_some_iff.1 Hra_6.out).1).trans Hra_6.out)
      have Hpa_7 := Lib.hid (Hpa_6.out.keep hb)
      have Hrb_7 := Lib.hid ((hb.block _ (Array.getElem?_eq_some_iff.1 Hrb_6.out).1).trans Hrb_6.out)
      have Hpb_7 := Lib.hid (Hpb_6.out.keep hb)
      clear HB6 Hra_6 Hpa_6 Hrb_6 Hpb_6
      clear hb
      go_wp2_with fail
      go_ret
      exact ⟨rfl, HB7.out⟩
    | true =>
      obtain ⟨hs2, hk2⟩ := Hyesb.out rfl
      subst hk2
      clear hs2
      have hse := HE.out (by first | rfl | trivial) (by first | rfl | trivial)
      clear HE Hnoa Hyesa Hnob Hyesb
      obtain ⟨⟨a0, a1, a2, a3⟩, _⟩ := row4 Hra_6.out
      obtain ⟨⟨b0, b1, b2, b3⟩, _⟩ := row4 Hrb_6.out
      go_wp2_with fail
      refine (HMb.out _ (Hv.out.below HB6.out) _ _ Hpb_6.out).mono ?_
      rintro e w7 ⟨rfl, hb⟩
      clear a0 a1 a2 a3 b0 b1 b2 b3
      have HB7 := Lib.hid (bot HB6.out hb)
      have Hra_7 := Lib.hid ((hb.block _ (Array.getElem?_eq_some_iff.1 Hra_6.out).1).trans Hra_6.out)
      have Hpa_7 := Lib.hid (Hpa_6.out.keep hb)
      have Hrb_7 := Lib.hid ((hb.block _ (Array.getElem?_eq_some_iff.1 Hrb_6.out).1).trans Hrb_6.out)
      have Hpb_7 := Lib.hid (Hpb_6.out.keep hb)
      clear HB6 Hra_6 Hpa_6 Hrb_6 Hpb_6
      clear hb
      have hrr : (r == r) = true := by simp
      obtain ⟨⟨a0, a1, a2, a3⟩, _⟩ := row4 Hra_7.out
      obtain ⟨⟨b0, b1, b2, b3⟩, _⟩ := row4 Hrb_7.out
      go_wp2_with fail
      refine (HSm.out _ _ _ _ _ Hpa_7.out Hpb_7.out).mono ?_
      rintro e w8 ⟨rfl, hb⟩
      clear a0 a1 a2 a3 b0 b1 b2 b3
      have HB8 := Lib.hid (bot HB7.out hb)
      have Hra_8 := Lib.hid ((hb.block _ (Array.getElem?_eq_some_iff.1 Hra_7.out).1).trans Hra_7.out)
      have Hpa_8 := Lib.hid (Hpa_7.out.keep hb)
      have Hrb_8 := Lib.hid ((hb.block _ (Array.getElem?_eq_some_iff.1 Hrb_7.out).1).trans Hrb_7.out)
      have Hpb_8 := Lib.hid (Hpb_7.out.keep hb)
      clear HB7 Hra_7 Hpa_7 Hrb_7 Hpb_7
      clear hb
      go_wp2_with fail
      go_ret
      exact ⟨rfl, HB8.out⟩


set_option maxHeartbeats 8000000 in
set_option maxRecDepth 100000 in
theorem maniMay_law (p q : Mani) (u v : Value) (w : World) (hv : Vok w) (hp : ManiV w (fun b => b < w.heap.size) p u) (hq : ManiV w (fun b => b < w.heap.size) q v) :
    Calls Tryz.prog 9 #[u, v] w fun e w' => e = .returned (.bool true) ∧ Below w.heap.size w w' := by
  have Hv := Lib.hid hv
  have Hp := Lib.hid hp
  have Hq := Lib.hid hq
  obtain ⟨Aa0, na0, ca0, Aa1, na1, ca1, Aa2, na2, ca2, Aa3, na3, ca3, rfl, _, _, _, _⟩ := id hp
  obtain ⟨Ab0, nb0, cb0, Ab1, nb1, cb1, Ab2, nb2, cb2, Ab3, nb3, cb3, rfl, _, _, _, _⟩ := id hq
  have HM1 : Hid (∀ W, Vok W → ∀ S u, ManiV W S p u → Calls Tryz.prog 27 #[u] W fun e w' => e = .returned (.bool (maniB p)) ∧ Below W.heap.size W w') := fun W hW S u hu => maniMay_any p u W S hW.tab hu
  have HM2 : Hid (∀ W S u, ManiV W S p u → Calls Tryz.prog 28 #[u] W fun e w' => e = .returned (.bool (maniB p)) ∧ Below W.heap.size W w') := fun W S u hu => refManiMay_any p u W S hu
  have HS1 : Hid (∀ W S T u v, ManiV W S p u → ManiV W T q v → Calls Tryz.prog 29 #[u, v] W fun e w' => e = .returned (.bool (eqB p q)) ∧ Below W.heap.size W w') := fun W S T u v h1 h2 => maniSame_any p q u v W S T h1 h2
  have HS2 : Hid (∀ W S T u v, ManiV W S p u → ManiV W T q v → Calls Tryz.prog 30 #[u, v] W fun e w' => e = .returned (.bool (eqB p q)) ∧ Below W.heap.size W w') := fun W S T u v h1 h2 => refManiSame_any p q u v W S T h1 h2
  generalize maniB p = bp at *
  generalize eqB p q = r at *
  have hb1 : (bp == bp) = true := by simp
  have hr1 : (r == r) = true := by simp
  have HB0 : Hid (Below w.heap.size w w) := Below.refl _ _
  clear hv hp hq
  go_enter Tryz.func9, Tryz.ntmps9
  go_wp2_with fail
  obtain ⟨w1, hw1⟩ : ∃ w1, w1 = w.alloc (.cells #[.slice Aa0 na0 ca0, .slice Aa1 na1 ca1, .slice Aa2 na2 ca2, .slice Aa3 na3 ca3] 47) := ⟨_, rfl⟩
  have hn : w1.heap[w.heap.size]? = some (.cells #[.slice Aa0 na0 ca0, .slice Aa1 na1 ca1, .slice Aa2 na2 ca2, .slice Aa3 na3 ca3] 47 (0, 0)) := by rw [hw1]; exact heap_alloc_new w _
  have hb : Below w.heap.size w w1 := by rw [hw1]; exact bal (Below.refl _ _) _
  have hzz : w.heap.size + 1 = w1.heap.size := by rw [hw1]; simp
  rw [← hw1]
  try rw [hzz]
  clear hw1 hzz
  have Hpn := Lib.hid ((Hp.out).keep hb)
  have HB1 := Lib.hid (bot HB0.out hb)
  clear HB0
  have Hra_1 := Lib.hid hn
  have Hpa_1 := Hpn
  clear hn hb Hpn
  obtain ⟨w2, hw2⟩ : ∃ w2, w2 = w1.alloc (.cells #[.slice Ab0 nb0 cb0, .slice Ab1 nb1 cb1, .slice Ab2 nb2 cb2, .slice Ab3 nb3 cb3] 47) := ⟨_, rfl⟩
  have hn : w2.heap[w1.heap.size]? = some (.cells #[.slice Ab0 nb0 cb0, .slice Ab1 nb1 cb1, .slice Ab2 nb2 cb2, .slice Ab3 nb3 cb3] 47 (0, 0)) := by rw [hw2]; exact heap_alloc_new w1 _
  have hb : Below w1.heap.size w1 w2 := by rw [hw2]; exact bal (Below.refl _ _) _
  have hzz : w1.heap.size + 1 = w2.heap.size := by rw [hw2]; simp
  rw [← hw2]
  try rw [hzz]
  clear hw2 hzz
  have Hpn := Lib.hid ((Hq.out.keep HB1.out).keep hb)
  have HB2 := Lib.hid (bot HB1.out hb)
  have Hra_2 := Lib.hid ((hb.block _ (Array.getElem?_eq_some_iff.1 Hra_1.out).1).trans Hra_1.out)
  have Hpa_2 := Lib.hid (Hpa_1.out.keep hb)
  clear HB1 Hra_1 Hpa_1
  have Hrb_2 := Lib.hid hn
  have Hpb_2 := Hpn
  clear hn hb Hpn
  clear Hp Hq
  have C1 := Lib.hid (qcall (fun W hW => HM1.out W (Hv.out.below (bot HB2.out hW)) _ _ (Hpa_2.out.keep hW)))
  have C2 := Lib.hid (qcall (fun W hW => HM2.out W _ _ (Hpa_2.out.keep hW)))
  have C3 := Lib.hid (qcall (fun W hW => HS1.out W _ _ _ _ (Hpa_2.out.keep hW) (Hpb_2.out.keep hW)))
  have C4 := Lib.hid (qcall (fun W hW => HS2.out W _ _ _ _ (Hpa_2.out.keep hW) (Hpb_2.out.keep hW)))
  have C5 := Lib.hid (qcall (fun W hW => maniSame_yes p _ _ W _ _ (Hpa_2.out.keep hW) (Hpa_2.out.keep hW)))
  have C6 := Lib.hid (qcall (fun W hW => known06_any W (Hv.out.below (bot HB2.out hW))))
  obtain ⟨⟨a0, a1, a2, a3⟩, _⟩ := row4 Hra_2.out
  obtain ⟨⟨b0, b1, b2, b3⟩, _⟩ := row4 Hrb_2.out
  have r_a0 := cell_regrown a0
  have r_a1 := cell_regrown a1
  have r_a2 := cell_regrown a2
  have r_a3 := cell_regrown a3
  have r_b0 := cell_regrown b0
  have r_b1 := cell_regrown b1
  have r_b2 := cell_regrown b2
  have r_b3 := cell_regrown b3
  go_wp2_with fail
  refine wp_region_qb (by kernel_rfl) (by kernel_rfl) ?_
  repeat (go_big_quiet_step (first | (with_reducible exact C1.out _ _) | (with_reducible exact C2.out _ _) | (with_reducible exact C3.out _ _) | (with_reducible exact C4.out _ _) | (with_reducible exact C5.out _ _) | (with_reducible exact C6.out _ _)))
  refine wpQuiet_nil ?_
  intro w9 B9
  go_wp2_with fail
  go_ret
  exact ⟨rfl, bot HB2.out B9⟩
end Go.Proofs.YtldjldkejjeamaaGreatDoor
