/-
  The law of packages PackAgain, walked. (Printed by gen_packc.py.)
-/
import Derived.Test.YtldjldkejjeamaaGreatDoorAgainP
set_option autoImplicit false
set_option relaxedAutoImplicit false
set_option linter.unusedVariables false
set_option linter.unusedSimpArgs false
namespace Go.Proofs.YtldjldkejjeamaaGreatDoor
open Go.Rows Go.RowKit Go.Shelf Go.Sort

set_option maxHeartbeats 8000000 in
set_option maxRecDepth 100000 in
theorem packAgain_bad (t : ByteArray) (k : Int) (hQ : packQ t = (packZ, k)) (hk : k ≠ 0) (w : World) (hv : Vok w) (ht : t.size ≤ 1048576) :
    Calls Tryz.prog 6 #[.string t] w fun e w' => e = .returned (.bool true) ∧ Below w.heap.size w w' := by
  have HP := Lib.hid (packParseO_any t w hv (by omega))
  rw [hQ] at HP
  simp only at HP
  have Hv := Lib.hid hv
  clear hv hQ
  have hkz : (k != 0) = true := by simpa using hk
  have HB0 : Hid (Below w.heap.size w w) := Below.refl _ _
  go_enter Tryz.func6, Tryz.ntmps6
  go_wp2_with fail
  refine HP.out.mono ?_
  rintro e w1 ⟨u, rfl, hu, hb⟩
  have hv1 := hu.packV
  obtain ⟨Aa, na, ca, Ba, ma, da, Ca, ka, ea, rfl, hza, g0, g1, g2⟩ := id hv1
  have e0 : na = 0 := g0.n_eq
  have e1 : ma = 0 := g1.n_eq
  have e2 : ka = 0 := g2.n_eq
  subst e0 e1 e2
  have Hv1 := Lib.hid hv1
  clear hu hv1 HP g0 g1 g2 hza
  have HB1 := Lib.hid (bot HB0.out hb)
  clear HB0
  clear hb
  unfold packZ at Hv1 ⊢
  simp only at Hv1 ⊢
  go_upto_region 2 with (fail)
  obtain ⟨w2, hw2⟩ : ∃ w2, w2 = w1.alloc (.cells #[.string ⟨#[]⟩, .int .i64 0, .int .i64 0, .int .i64 0, .slice Aa 0 ca, .slice Ba 0 da, .slice Ca 0 ea] 26) := ⟨_, rfl⟩
  have hn : w2.heap[w1.heap.size]? = some (.cells #[.string ⟨#[]⟩, .int .i64 0, .int .i64 0, .int .i64 0, .slice Aa 0 ca, .slice Ba 0 da, .slice Ca 0 ea] 26 (0, 0)) := by rw [hw2]; exact heap_alloc_new w1 _
  have hb : Below w1.heap.size w1 w2 := by rw [hw2]; exact bal (Below.refl _ _) _
  have hzz : w1.heap.size + 1 = w2.heap.size := by rw [hw2]; simp
  rw [← hw2]
  try rw [hzz]
  clear hw2 hzz
  have Hpn := Lib.hid ((Hv1.out).keep hb)
  have HB2 := Lib.hid (bot HB1.out hb)
  clear HB1
  have Hra_2 := Lib.hid hn
  have Hpa_2 := Hpn
  clear hn hb Hpn
  clear Hv1
  go_wp2_with fail
  refine (known05_any _ (Hv.out.below HB2.out)).mono ?_
  rintro e w3 ⟨rfl, hb⟩
  have HB3 := Lib.hid (bot HB2.out hb)
  have Hra_3 := Lib.hid ((hb.block _ (Array.getElem?_eq_some_iff.1 Hra_2.out).1).trans Hra_2.out)
  have Hpa_3 := Lib.hid (Hpa_2.out.keep hb)
  clear HB2 Hra_2 Hpa_2
  clear hb
  obtain ⟨⟨a0, a1, a2, a3, a4, a5, a6⟩, _⟩ := row7 Hra_3.out
  clear hk
  go_wp2_with fail
  go_ret
  exact ⟨rfl, HB3.out⟩

set_option maxHeartbeats 8000000 in
set_option maxRecDepth 100000 in
theorem packAgain_good (t : ByteArray) (p : Pack) (hQ : packQ t = (p, 0)) (hp : packB p = true) (w : World) (hv : Vok w) (ht : t.size ≤ 1048576) :
    Calls Tryz.prog 6 #[.string t] w fun e w' => e = .returned (.bool true) ∧ Below w.heap.size w w' := by
  have HP := Lib.hid (fun W (hW : Vok W) => packParseO_any t W hW (by omega))
  have HT := Lib.hid (fun W (hW : Vok W) => packParseO_any (packText p) W hW (by have := packText_size hp; omega))
  rw [packQ_text hp] at HT
  rw [hQ] at HP
  simp only at HP HT
  have HPr : Hid (∀ W, Vok W → ∀ S u, PackV W S p u → Calls Tryz.prog 19 #[u] W fun e w' => e = .returned (.tuple #[.string (packText p), .int .i64 0]) ∧ Below W.heap.size W w') := fun W hW S u hu => by
    have := packPrint_any p u W S hW.tab hu
    unfold packP at this
    rw [if_pos hp] at this
    exact this
  have HM : Hid (∀ W, Vok W → ∀ S u, PackV W S p u → Calls Tryz.prog 14 #[u] W fun e w' => e = .returned (.bool true) ∧ Below W.heap.size W w') := fun W hW S u hu => by
    have := packMay_any p u W S hW.tab hu
    rw [hp] at this
    exact this
  obtain ⟨s, hs⟩ : ∃ s, s = packText p := ⟨_, rfl⟩
  rw [← hs] at HT HPr
  have hss : (s.toList == s.toList) = true := by simp
  have Hv := Lib.hid hv
  clear hv hQ hp hs
  have HB0 : Hid (Below w.heap.size w w) := Below.refl _ _
  go_enter Tryz.func6, Tryz.ntmps6
  go_wp2_with fail
  refine (HP.out _ Hv.out).mono ?_
  rintro e w1 ⟨u, rfl, hu, hb⟩
  have hv1 := hu.packV
  obtain ⟨Aa, na, ca, Ba, ma, da, Ca, ka, ea, rfl, hza, _, _, _⟩ := id hv1
  have Hv1 := Lib.hid hv1
  clear hu hv1
  have HB1 := Lib.hid (bot HB0.out hb)
  clear HB0
  clear hb
  go_upto_region 2 with (fail)
  obtain ⟨w2, hw2⟩ : ∃ w2, w2 = w1.alloc (.cells #[.string p.name, .int .i64 p.ver.major, .int .i64 p.ver.minor, .int .i64 p.ver.patch, .slice Aa na ca, .slice Ba ma da, .slice Ca ka ea] 26) := ⟨_, rfl⟩
  have hn : w2.heap[w1.heap.size]? = some (.cells #[.string p.name, .int .i64 p.ver.major, .int .i64 p.ver.minor, .int .i64 p.ver.patch, .slice Aa na ca, .slice Ba ma da, .slice Ca ka ea] 26 (0, 0)) := by rw [hw2]; exact heap_alloc_new w1 _
  have hb : Below w1.heap.size w1 w2 := by rw [hw2]; exact bal (Below.refl _ _) _
  have hzz : w1.heap.size + 1 = w2.heap.size := by rw [hw2]; simp
  rw [← hw2]
  try rw [hzz]
  clear hw2 hzz
  have Hpn := Lib.hid ((Hv1.out).keep hb)
  have HB2 := Lib.hid (bot HB1.out hb)
  clear HB1
  have Hra_2 := Lib.hid hn
  have Hpa_2 := Hpn
  clear hn hb Hpn
  clear Hv1
  go_wp2_with fail
  refine (known05_any _ (Hv.out.below HB2.out)).mono ?_
  rintro e w3 ⟨rfl, hb⟩
  have HB3 := Lib.hid (bot HB2.out hb)
  have Hra_3 := Lib.hid ((hb.block _ (Array.getElem?_eq_some_iff.1 Hra_2.out).1).trans Hra_2.out)
  have Hpa_3 := Lib.hid (Hpa_2.out.keep hb)
  clear HB2 Hra_2 Hpa_2
  clear hb
  obtain ⟨⟨a0, a1, a2, a3, a4, a5, a6⟩, _⟩ := row7 Hra_3.out
  go_wp2_with fail
  refine (HM.out _ (Hv.out.below HB3.out) _ _ Hpa_3.out).mono ?_
  rintro e w4 ⟨rfl, hb⟩
  clear a0 a1 a2 a3 a4 a5 a6
  have HB4 := Lib.hid (bot HB3.out hb)
  have Hra_4 := Lib.hid ((hb.block _ (Array.getElem?_eq_some_iff.1 Hra_3.out).1).trans Hra_3.out)
  have Hpa_4 := Lib.hid (Hpa_3.out.keep hb)
  clear HB3 Hra_3 Hpa_3
  clear hb
  obtain ⟨⟨a0, a1, a2, a3, a4, a5, a6⟩, _⟩ := row7 Hra_4.out
  go_wp2_with fail
  refine (HPr.out _ (Hv.out.below HB4.out) _ _ Hpa_4.out).mono ?_
  rintro e w5 ⟨rfl, hb⟩
  clear a0 a1 a2 a3 a4 a5 a6
  have HB5 := Lib.hid (bot HB4.out hb)
  have Hra_5 := Lib.hid ((hb.block _ (Array.getElem?_eq_some_iff.1 Hra_4.out).1).trans Hra_4.out)
  have Hpa_5 := Lib.hid (Hpa_4.out.keep hb)
  clear HB4 Hra_4 Hpa_4
  clear hb
  have Hza : Hid (w1.heap.size < w5.heap.size) := (Array.getElem?_eq_some_iff.1 Hra_5.out).1
  have Hz1 : Hid (w.heap.size ≤ w5.heap.size) := HB5.out.size
  go_wp2_with fail
  refine (HT.out _ (Hv.out.below HB5.out)).mono ?_
  rintro e w6 ⟨u2, rfl, hu, hb⟩
  have hv1 := hu.packV
  obtain ⟨Ab, nb, cb, Bb, mb, db, Cb, kb, eb, rfl, hzb, _, _, _⟩ := id hv1
  have Hu := Lib.hid hu
  have Hv1 := Lib.hid hv1
  have Hz5 : Hid (w5.heap.size ≤ w6.heap.size) := hb.size
  clear hu hv1 HT
  have HB6 := Lib.hid (bot HB5.out hb)
  have Hra_6 := Lib.hid ((hb.block _ (Array.getElem?_eq_some_iff.1 Hra_5.out).1).trans Hra_5.out)
  have Hpa_6 := Lib.hid (Hpa_5.out.keep hb)
  clear HB5 Hra_5 Hpa_5
  clear hb
  have HC6 : Hid (Below w6.heap.size w6 w6) := Below.refl _ _
  go_upto_region 10 with (fail)
  obtain ⟨w7, hw7⟩ : ∃ w7, w7 = w6.alloc (.cells #[.string p.name, .int .i64 p.ver.major, .int .i64 p.ver.minor, .int .i64 p.ver.patch, .slice Ab nb cb, .slice Bb mb db, .slice Cb kb eb] 26) := ⟨_, rfl⟩
  have hn : w7.heap[w6.heap.size]? = some (.cells #[.string p.name, .int .i64 p.ver.major, .int .i64 p.ver.minor, .int .i64 p.ver.patch, .slice Ab nb cb, .slice Bb mb db, .slice Cb kb eb] 26 (0, 0)) := by rw [hw7]; exact heap_alloc_new w6 _
  have hb : Below w6.heap.size w6 w7 := by rw [hw7]; exact bal (Below.refl _ _) _
  have hzz : w6.heap.size + 1 = w7.heap.size := by rw [hw7]; simp
  rw [← hw7]
  try rw [hzz]
  clear hw7 hzz
  have Hpn := Lib.hid ((Hv1.out).keep hb)
  have HB7 := Lib.hid (bot HB6.out hb)
  have Hra_7 := Lib.hid ((hb.block _ (Array.getElem?_eq_some_iff.1 Hra_6.out).1).trans Hra_6.out)
  have Hpa_7 := Lib.hid (Hpa_6.out.keep hb)
  clear HB6 Hra_6 Hpa_6
  have HC7 := Lib.hid (bot HC6.out hb)
  clear HC6
  have Hrb_7 := Lib.hid hn
  have Hpb_7 := Hpn
  clear hn hb Hpn
  clear Hv1
  obtain ⟨⟨a0, a1, a2, a3, a4, a5, a6⟩, _⟩ := row7 Hra_7.out
  obtain ⟨⟨b0, b1, b2, b3, b4, b5, b6⟩, _⟩ := row7 Hrb_7.out
  go_wp2_with fail
  refine (packSame_yes p _ _ w7 _ _ Hpa_7.out Hpb_7.out).mono ?_
  rintro e w8 ⟨rfl, hb⟩
  clear a0 a1 a2 a3 a4 a5 a6 b0 b1 b2 b3 b4 b5 b6
  have HB8 := Lib.hid (bot HB7.out hb)
  have Hra_8 := Lib.hid ((hb.block _ (Array.getElem?_eq_some_iff.1 Hra_7.out).1).trans Hra_7.out)
  have Hpa_8 := Lib.hid (Hpa_7.out.keep hb)
  have Hrb_8 := Lib.hid ((hb.block _ (Array.getElem?_eq_some_iff.1 Hrb_7.out).1).trans Hrb_7.out)
  have Hpb_8 := Lib.hid (Hpb_7.out.keep hb)
  clear HB7 Hra_7 Hpa_7 Hrb_7 Hpb_7
  have HC8 := Lib.hid (bot HC7.out hb)
  clear HC7
  clear hb
  go_wp2_with fail
  refine (HP.out _ (Hv.out.below HB8.out)).mono ?_
  rintro e w9 ⟨u3, rfl, hu, hb⟩
  have hv1 := hu.packV
  obtain ⟨Ac, nc, cc, Bc, mc, dc, Cc, kc, ec, rfl, hzc, _, _, _⟩ := id hv1
  have Hv1 := Lib.hid hv1
  have Hz8 : Hid (w6.heap.size ≤ w8.heap.size) := HC8.out.size
  have Hz9 : Hid (w8.heap.size ≤ w9.heap.size) := hb.size
  clear hu hv1 HP
  have HB9 := Lib.hid (bot HB8.out hb)
  have Hra_9 := Lib.hid ((hb.block _ (Array.getElem?_eq_some_iff.1 Hra_8.out).1).trans Hra_8.out)
  have Hpa_9 := Lib.hid (Hpa_8.out.keep hb)
  have Hrb_9 := Lib.hid ((hb.block _ (Array.getElem?_eq_some_iff.1 Hrb_8.out).1).trans Hrb_8.out)
  have Hpb_9 := Lib.hid (Hpb_8.out.keep hb)
  clear HB8 Hra_8 Hpa_8 Hrb_8 Hpb_8
  have HC9 := Lib.hid (bot HC8.out hb)
  clear HC8
  clear hb
  go_upto_region 13 with (fail)
  obtain ⟨w10, hw10⟩ : ∃ w10, w10 = w9.alloc (.cells #[.string p.name, .int .i64 p.ver.major, .int .i64 p.ver.minor, .int .i64 p.ver.patch, .slice Ac nc cc, .slice Bc mc dc, .slice Cc kc ec] 26) := ⟨_, rfl⟩
  have hn : w10.heap[w9.heap.size]? = some (.cells #[.string p.name, .int .i64 p.ver.major, .int .i64 p.ver.minor, .int .i64 p.ver.patch, .slice Ac nc cc, .slice Bc mc dc, .slice Cc kc ec] 26 (0, 0)) := by rw [hw10]; exact heap_alloc_new w9 _
  have hb : Below w9.heap.size w9 w10 := by rw [hw10]; exact bal (Below.refl _ _) _
  have hzz : w9.heap.size + 1 = w10.heap.size := by rw [hw10]; simp
  rw [← hw10]
  try rw [hzz]
  clear hw10 hzz
  have Hpn := Lib.hid ((Hv1.out).keep hb)
  have HB10 := Lib.hid (bot HB9.out hb)
  have Hra_10 := Lib.hid ((hb.block _ (Array.getElem?_eq_some_iff.1 Hra_9.out).1).trans Hra_9.out)
  have Hpa_10 := Lib.hid (Hpa_9.out.keep hb)
  have Hrb_10 := Lib.hid ((hb.block _ (Array.getElem?_eq_some_iff.1 Hrb_9.out).1).trans Hrb_9.out)
  have Hpb_10 := Lib.hid (Hpb_9.out.keep hb)
  clear HB9 Hra_9 Hpa_9 Hrb_9 Hpb_9
  have HC10 := Lib.hid (bot HC9.out hb)
  clear HC9
  have Hrc_10 := Lib.hid hn
  have Hpc_10 := Hpn
  clear hn hb Hpn
  clear Hv1
  obtain ⟨v, l, S, hveq, _, ⟨hown, hfr, _⟩, hl0, _, _⟩ := Hu.out
  have ho := hown 0 (by decide)
  rw [hl0] at ho
  obtain ⟨g, A, c, sz, vs, hv0, hlm, hrow, hvs⟩ := again_of ho hfr
  have hAb : (.slice Ab nb cb : Value) = .slice A p.deps.length c := by
    have := congrArg (fun x => match x with | Value.agg cs => cs[4]? | _ => none) hveq
    simp only [cellsP] at this
    rw [← hv0]
    simpa using this
  simp only [Value.slice.injEq] at hAb
  obtain ⟨rfl, hnb, rfl⟩ := hAb
  rw [← hnb] at hlm hrow hvs
  have HS : Hid (∀ b, S b → w5.heap.size ≤ b ∧ b < w6.heap.size) := fun b hb => ⟨(hfr b hb).1, fresh_lt (hfr b hb)⟩
  have HR0 : Hid (0 < nb → Ab = some ⟨g, 0, none⟩ ∧ (w5.heap.size ≤ g ∧ g < w6.heap.size) ∧ AgainR g S sz nb vs w10) := fun h => ⟨(hrow h).1, ⟨(hrow h).2.1, (hrow h).2.2.1⟩, (hrow h).2.2.2.keep HC10.out⟩
  have HV := Lib.hid hvs
  unfold maxLen at hlm
  clear hveq hown hfr hl0 ho hv0 hrow hvs hnb Hu HC10
  obtain ⟨X, hX⟩ : ∃ X : Nat → Prop, X = fun b => w5.heap.size ≤ b ∧ b < w6.heap.size := ⟨_, rfl⟩
  have HXS : Hid (∀ b, S b → X b) := fun b hb => by rw [hX]; exact HS.out b hb
  have HXg : Hid (0 < nb → X g) := fun h => by rw [hX]; exact (HR0.out h).2.1
  have HXa : Hid (∀ b, X b → w5.heap.size ≤ b ∧ b < w6.heap.size) := fun b hb => by rw [hX] at hb; exact hb
  have HR1 : Hid (0 < nb → Ab = some ⟨g, 0, none⟩) := fun h => (HR0.out h).1
  have HR2 : Hid (0 < nb → AgainR g S sz nb vs w10) := fun h => (HR0.out h).2.2
  clear hX HS HR0
  have HXT : Hid (∀ (W : World) (b o : Nat) (x : Value), X b → Turn X W (W.setCell ⟨b, o, none⟩ x)) := fun W b o x h => Turn.setAt W h o x
  go_wp2_with fail
  go_loopw [11] (fun i wr => ∃ k : Nat, k ≤ nb ∧ i = .int .i64 k ∧ Hid (0 < nb → AgainR g S sz nb vs wr) ∧ Hid (Turn X w10 wr)) (fun i _ => nb - (intOf i).toNat)
  case atStart => exact ⟨0, Nat.zero_le _, rfl, HR2, Turn.refl _ _⟩
  case round =>
    clear HR2
    obtain ⟨i, hi, rfl, HA, HTn⟩ := hrel
    obtain ⟨w11, hwo⟩ : ∃ w11, w11 = wr := ⟨_, rfl⟩
    subst hwo
    have hqb := HTn.out.at Hrb_10.out (fun h => by have := (HXa.out _ h).2; omega)
    obtain ⟨⟨b0, b1, b2, b3, b4, b5, b6⟩, _⟩ := row7 hqb
    clear b0 b1 b2 b3 b5 b6
    by_cases hlt : i < nb
    · have hn0 : 0 < nb := by omega
      have hI : (i : Int) < (nb : Int) := by omega
      have hi0 : (0 : Int) ≤ (i : Int) := by omega
      obtain ⟨Ar, nr, cr, hvr, hrm, hrs⟩ := HV.out i hlt
      have hA := HA.out hn0
      have hr0 := hA.range hlt
      rw [hvr] at hr0
      obtain ⟨y0, yn, yf⟩ := hA.name hlt
      have hXg := HXg.out hn0
      have hAe := HR1.out hn0
      unfold maxLen at hrm
      subst hAe
      have Hrs := Lib.hid hrs
      have Hvr := Lib.hid hvr
      have HA1 := Lib.hid hA
      have Hqb := Lib.hid hqb
      clear hA hrs hvr hqb HA
      go_wp2_with fail
      go_loopw [12] (fun j wr => ∃ k : Nat, k ≤ nr ∧ j = .int .i64 k ∧ Hid (AgainR g S sz nb vs wr) ∧ Hid (Turn X w10 wr)) (fun j _ => nr - (intOf j).toNat)
      case atStart => exact ⟨0, Nat.zero_le _, rfl, HA1, HTn⟩
      case round =>
        clear b4 hr0 yn yf Hqb HA1 HTn
        obtain ⟨j, hj, rfl, HA2, HT2⟩ := hrel
        have hqb := HT2.out.at Hrb_10.out (fun h => by have := (HXa.out _ h).2; omega)
        obtain ⟨⟨b0, b1, b2, b3, b4, b5, b6⟩, _⟩ := row7 hqb
        clear b0 b1 b2 b3 b5 b6 hqb
        have hr0 := HA2.out.range hlt
        rw [Hvr.out] at hr0
        by_cases hjt : j < nr
        · have hJ : (j : Int) < (nr : Int) := by omega
          have hj0 : (0 : Int) ≤ (j : Int) := by omega
          obtain ⟨rb, ro, rfl, hSb, hfit⟩ := Hrs.out (by omega)
          have hXb := HXS.out rb hSb
          obtain ⟨x0, c0, f0⟩ := HA2.out.spot hSb (k := ro + j * 6) (by omega)
          obtain ⟨x1, c1, f1⟩ := HA2.out.spot hSb (k := ro + j * 6 + 1) (by omega)
          obtain ⟨x2, c2, f2⟩ := HA2.out.spot hSb (k := ro + j * 6 + 2) (by omega)
          obtain ⟨x3, c3, f3⟩ := HA2.out.spot hSb (k := ro + j * 6 + 3) (by omega)
          obtain ⟨x4, c4, f4⟩ := HA2.out.spot hSb (k := ro + j * 6 + 4) (by omega)
          obtain ⟨x5, c5, f5⟩ := HA2.out.spot hSb (k := ro + j * 6 + 5) (by omega)
          have HSb := Lib.hid hSb
          have HXb := Lib.hid hXb
          clear hSb hXb hfit
          go_wp2_with fail
          go_roundw
          case rel => exact ⟨j + 1, by omega, by go_num, (((((HA2.out.setS HSb.out _ _).setS HSb.out _ _).setS HSb.out _ _).setS HSb.out _ _).setS HSb.out _ _).setS HSb.out _ _, ((((((HT2.out.trans (HXT.out _ _ _ _ HXb.out)).trans (HXT.out _ _ _ _ HXb.out)).trans (HXT.out _ _ _ _ HXb.out)).trans (HXT.out _ _ _ _ HXb.out)).trans (HXT.out _ _ _ _ HXb.out)).trans (HXT.out _ _ _ _ HXb.out))⟩
          case measure => simp [intOf]; omega
        · have hJ : ¬ (j : Int) < (nr : Int) := by omega
          obtain ⟨y1, yn, yf⟩ := HA2.out.name hlt
          go_wp2_with fail
          go_roundw
          case rel => exact ⟨i + 1, by omega, by go_num, fun _ => HA2.out.setG i _, HT2.out.trans (HXT.out _ _ _ _ hXg)⟩
          case measure => simp [intOf]; omega
    · have hI : ¬ (i : Int) < (nb : Int) := by omega
      have HB11 : Hid (Below w.heap.size w w11) := HB10.out.trans (Turn.below HTn.out HB10.out.size (fun k hk => Nat.le_trans Hz1.out (HXa.out k hk).1))
      have Hra_11 := Lib.hid (HTn.out.at Hra_10.out (fun h => by have := (HXa.out _ h).1; have := Hza.out; omega))
      have Hrc_11 := Lib.hid (HTn.out.at Hrc_10.out (fun h => by have := (HXa.out _ h).2; have := Hz8.out; have := Hz9.out; omega))
      have Hpa_11 := Lib.hid (Hpa_10.out.turn HTn.out (fun b hb h => by have := fresh_lt hb; have := (HXa.out _ h).1; have := Hza.out; omega))
      have Hpc_11 := Lib.hid (Hpc_10.out.turn HTn.out (fun b hb h => by have := hb.1; have := (HXa.out _ h).2; have := Hz8.out; omega))
      have HW11 := Lib.hid (Hv.out.below HB11.out)
      obtain ⟨⟨a0, a1, a2, a3, a4, a5, a6⟩, _⟩ := row7 Hra_11.out
      obtain ⟨⟨c0, c1, c2, c3, c4, c5, c6⟩, _⟩ := row7 Hrc_11.out
      go_wp2_with fail
      refine (HPr.out _ HW11.out _ _ Hpa_11.out).mono ?_
      rintro e w12 ⟨rfl, hb⟩
      clear a0 a1 a2 a3 a4 a5 a6 c0 c1 c2 c3 c4 c5 c6
      have HB12 := Lib.hid (bot HB11.out hb)
      have Hra_12 := Lib.hid ((hb.block _ (Array.getElem?_eq_some_iff.1 Hra_11.out).1).trans Hra_11.out)
      have Hpa_12 := Lib.hid (Hpa_11.out.keep hb)
      have Hrc_12 := Lib.hid ((hb.block _ (Array.getElem?_eq_some_iff.1 Hrc_11.out).1).trans Hrc_11.out)
      have Hpc_12 := Lib.hid (Hpc_11.out.keep hb)
      clear HB11 Hra_11 Hpa_11 Hrc_11 Hpc_11
      clear hb
      obtain ⟨⟨a0, a1, a2, a3, a4, a5, a6⟩, _⟩ := row7 Hra_12.out
      obtain ⟨⟨c0, c1, c2, c3, c4, c5, c6⟩, _⟩ := row7 Hrc_12.out
      go_wp2_with fail
      refine (packSame_yes p _ _ w12 _ _ Hpa_12.out Hpc_12.out).mono ?_
      rintro e w13 ⟨rfl, hb⟩
      clear a0 a1 a2 a3 a4 a5 a6 c0 c1 c2 c3 c4 c5 c6
      have HB13 := Lib.hid (bot HB12.out hb)
      have Hra_13 := Lib.hid ((hb.block _ (Array.getElem?_eq_some_iff.1 Hra_12.out).1).trans Hra_12.out)
      have Hpa_13 := Lib.hid (Hpa_12.out.keep hb)
      have Hrc_13 := Lib.hid ((hb.block _ (Array.getElem?_eq_some_iff.1 Hrc_12.out).1).trans Hrc_12.out)
      have Hpc_13 := Lib.hid (Hpc_12.out.keep hb)
      clear HB12 Hra_12 Hpa_12 Hrc_12 Hpc_12
      clear hb
      go_wp2_with fail
      go_ret
      exact ⟨rfl, HB13.out⟩
theorem packAgain_law (t : ByteArray) (w : World) (hv : Vok w) (ht : t.size ≤ 1048576) :
    Calls Tryz.prog 6 #[.string t] w fun e w' => e = .returned (.bool true) ∧ Below w.heap.size w w' := by
  rcases packQ_two t with ⟨k, h, hk⟩ | ⟨p, h, hp⟩
  · exact packAgain_bad t k h hk w hv ht
  · exact packAgain_good t p h hp w hv ht
end Go.Proofs.YtldjldkejjeamaaGreatDoor
