/-
  The law of manifests ManifestAgain, walked. (Printed by gen_manic.py.)
-/
import Derived.Test.YtldjldkejjeamaaGreatDoorManiLaws
import Derived.Test.YtldjldkejjeamaaGreatDoorAgainP
set_option autoImplicit false
set_option relaxedAutoImplicit false
set_option linter.unusedVariables false
set_option linter.unusedSimpArgs false
namespace Go.Proofs.YtldjldkejjeamaaGreatDoor
open Go.Rows Go.RowKit Go.Shelf Go.Sort

theorem maniE_err {t : ByteArray} {k : Int} (h : maniE t = .error k) : k ≠ 0 := by
  unfold maniE at h
  split at h
  · rename_i h0; cases h; exact h0
  · split at h
    · split at h
      · cases h; decide
      · split at h
        · rename_i e he
          cases h
          exact (lists_good _ _ _).1 _ he
        · split at h
          · cases h
          · cases h; decide
        · rename_i x hno hx
          have := (lists_good _ _ _).2 _ hx
          match x, this, hno with
          | [d, v, p, o], _, hno => exact absurd rfl (hno d v p o)
    · cases h; decide
/-- read with an error: nothing; without: what may be, and its text is read as the same -/
theorem maniQ_two (t : ByteArray) : (∃ k, maniQ t = (maniZ, k) ∧ k ≠ 0) ∨ ∃ p, maniQ t = (p, 0) ∧ maniB p = true := by
  unfold maniQ
  cases h : maniE t with
  | error k => exact .inl ⟨k, rfl, maniE_err h⟩
  | ok p => exact .inr ⟨p, rfl, maniE_ok h⟩
theorem ManiV.turn {W W' : World} {X S : Nat → Prop} {p : Mani} {v : Value} (h : ManiV W S p v) (ht : Turn X W W') (hx : ∀ b, S b → ¬ X b) : ManiV W' S p v := by
  obtain ⟨A0, n0, c0, A1, n1, c1, A2, n2, c2, A3, n3, c3, h0, h1, h2, h3, h4⟩ := h
  exact ⟨A0, n0, c0, A1, n1, c1, A2, n2, c2, A3, n3, c3, h0, (rSlice rDep).mono h1 fun b hb hl => ⟨hb, ht.block b hl (hx b hb)⟩, (rSlice rDep).mono h2 fun b hb hl => ⟨hb, ht.block b hl (hx b hb)⟩, (rSlice rDep).mono h3 fun b hb hl => ⟨hb, ht.block b hl (hx b hb)⟩, (rSlice rDep).mono h4 fun b hb hl => ⟨hb, ht.block b hl (hx b hb)⟩⟩

set_option maxHeartbeats 8000000 in
set_option maxRecDepth 100000 in
theorem maniAgain_bad (t : ByteArray) (k : Int) (hQ : maniQ t = (maniZ, k)) (hk : k ≠ 0) (w : World) (hv : Vok w) (ht : t.size ≤ 1048576) :
    Calls Tryz.prog 12 #[.string t] w fun e w' => e = .returned (.bool true) ∧ Below w.heap.size w w' := by
  have HP := Lib.hid (maniParseO_any t w hv (by omega))
  rw [hQ] at HP
  simp only at HP
  have Hv := Lib.hid hv
  clear hv hQ
  have hkz : (k != 0) = true := by simpa using hk
  have HB0 : Hid (Below w.heap.size w w) := Below.refl _ _
  go_enter Tryz.func12, Tryz.ntmps12
  go_wp2_with fail
  refine HP.out.mono ?_
  rintro e w1 ⟨u, rfl, hu, hb⟩
  have hv1 := hu.maniV
  obtain ⟨Aa0, na0, ca0, Aa1, na1, ca1, Aa2, na2, ca2, Aa3, na3, ca3, rfl, g0, g1, g2, g3⟩ := id hv1
  have e0 : na0 = 0 := g0.n_eq
  have e1 : na1 = 0 := g1.n_eq
  have e2 : na2 = 0 := g2.n_eq
  have e3 : na3 = 0 := g3.n_eq
  subst e0 e1 e2 e3
  have Hv1 := Lib.hid hv1
  clear hu hv1 HP g0 g1 g2 g3
  have HB1 := Lib.hid (bot HB0.out hb)
  clear HB0
  clear hb
  go_upto_region 2 with (fail)
  obtain ⟨w2, hw2⟩ : ∃ w2, w2 = w1.alloc (.cells #[.slice Aa0 0 ca0, .slice Aa1 0 ca1, .slice Aa2 0 ca2, .slice Aa3 0 ca3] 47) := ⟨_, rfl⟩
  have hn : w2.heap[w1.heap.size]? = some (.cells #[.slice Aa0 0 ca0, .slice Aa1 0 ca1, .slice Aa2 0 ca2, .slice Aa3 0 ca3] 47 (0, 0)) := by rw [hw2]; exact heap_alloc_new w1 _
  have hb : Below w1.heap.size w1 w2 := by rw [hw2]; exact bal (Below.refl _ _) _
  have hzz : w1.heap.size + 1 = w2.heap.size := by rw [hw2]; simp
  rw [← hw2]
  try rw [hzz]
  clear hw2 hzz
  have Hpn := Lib.hid ((Hv1.out).keep hb)
  have HB2 := Lib.hid (bot HB1.out hb)
  clear HB1
  have Hra_2 := Lib.hid hn
  have Hpa_2 := Hpn
  clear hn hb Hpn
  clear Hv1
  go_wp2_with fail
  refine (known06_any _ (Hv.out.below HB2.out)).mono ?_
  rintro e w3 ⟨rfl, hb⟩
  have HB3 := Lib.hid (bot HB2.out hb)
  have Hra_3 := Lib.hid ((hb.block _ (Array.getElem?_eq_some_iff.1 Hra_2.out).1).trans Hra_2.out)
  have Hpa_3 := Lib.hid (Hpa_2.out.keep hb)
  clear HB2 Hra_2 Hpa_2
  clear hb
  obtain ⟨⟨a0, a1, a2, a3⟩, _⟩ := row4 Hra_3.out
  clear hk
  go_wp2_with fail
  go_ret
  exact ⟨rfl, HB3.out⟩

set_option maxHeartbeats 8000000 in
set_option maxRecDepth 100000 in
theorem maniAgain_good (t : ByteArray) (p : Mani) (hQ : maniQ t = (p, 0)) (hp : maniB p = true) (w : World) (hv : Vok w) (ht : t.size ≤ 1048576) :
    Calls Tryz.prog 12 #[.string t] w fun e w' => e = .returned (.bool true) ∧ Below w.heap.size w w' := by
  have HP := Lib.hid (fun W (hW : Vok W) => maniParseO_any t W hW (by omega))
  have HT := Lib.hid (fun W (hW : Vok W) => maniParseO_any (maniText p) W hW (by have := maniText_size hp; omega))
  rw [maniQ_text hp] at HT
  rw [hQ] at HP
  simp only at HP HT
  have HPr : Hid (∀ W, Vok W → ∀ S u, ManiV W S p u → Calls Tryz.prog 32 #[u] W fun e w' => e = .returned (.tuple #[.string (maniText p), .int .i64 0]) ∧ Below W.heap.size W w') := fun W hW S u hu => by
    have := maniPrint_any p u W S hW.tab hu
    unfold maniP at this
    rw [if_pos hp] at this
    exact this
  have HM : Hid (∀ W, Vok W → ∀ S u, ManiV W S p u → Calls Tryz.prog 27 #[u] W fun e w' => e = .returned (.bool true) ∧ Below W.heap.size W w') := fun W hW S u hu => by
    have := maniMay_any p u W S hW.tab hu
    rw [hp] at this
    exact this
  obtain ⟨s, hs⟩ : ∃ s, s = maniText p := ⟨_, rfl⟩
  rw [← hs] at HT HPr
  have hss : (s.toList == s.toList) = true := by simp
  have Hv := Lib.hid hv
  clear hv hQ hp hs
  have HB0 : Hid (Below w.heap.size w w) := Below.refl _ _
  go_enter Tryz.func12, Tryz.ntmps12
  go_wp2_with fail
  refine (HP.out _ Hv.out).mono ?_
  rintro e w1 ⟨u, rfl, hu, hb⟩
  have hv1 := hu.maniV
  obtain ⟨Aa0, na0, ca0, Aa1, na1, ca1, Aa2, na2, ca2, Aa3, na3, ca3, rfl, _, _, _, _⟩ := id hv1
  have Hv1 := Lib.hid hv1
  clear hu hv1 HP
  have HB1 := Lib.hid (bot HB0.out hb)
  clear HB0
  clear hb
  go_upto_region 2 with (fail)
  obtain ⟨w2, hw2⟩ : ∃ w2, w2 = w1.alloc (.cells #[.slice Aa0 na0 ca0, .slice Aa1 na1 ca1, .slice Aa2 na2 ca2, .slice Aa3 na3 ca3] 47) := ⟨_, rfl⟩
  have hn : w2.heap[w1.heap.size]? = some (.cells #[.slice Aa0 na0 ca0, .slice Aa1 na1 ca1, .slice Aa2 na2 ca2, .slice Aa3 na3 ca3] 47 (0, 0)) := by rw [hw2]; exact heap_alloc_new w1 _
  have hb : Below w1.heap.size w1 w2 := by rw [hw2]; exact bal (Below.refl _ _) _
  have hzz : w1.heap.size + 1 = w2.heap.size := by rw [hw2]; simp
  rw [← hw2]
  try rw [hzz]
  clear hw2 hzz
  have Hpn := Lib.hid ((Hv1.out).keep hb)
  have HB2 := Lib.hid (bot HB1.out hb)
  clear HB1
  have Hra_2 := Lib.hid hn
  have Hpa_2 := Hpn
  clear hn hb Hpn
  clear Hv1
  go_wp2_with fail
  refine (known06_any _ (Hv.out.below HB2.out)).mono ?_
  rintro e w3 ⟨rfl, hb⟩
  have HB3 := Lib.hid (bot HB2.out hb)
  have Hra_3 := Lib.hid ((hb.block _ (Array.getElem?_eq_some_iff.1 Hra_2.out).1).trans Hra_2.out)
  have Hpa_3 := Lib.hid (Hpa_2.out.keep hb)
  clear HB2 Hra_2 Hpa_2
  clear hb
  obtain ⟨⟨a0, a1, a2, a3⟩, _⟩ := row4 Hra_3.out
  go_wp2_with fail
  refine (HPr.out _ (Hv.out.below HB3.out) _ _ Hpa_3.out).mono ?_
  rintro e w4 ⟨rfl, hb⟩
  clear a0 a1 a2 a3
  have HB4 := Lib.hid (bot HB3.out hb)
  have Hra_4 := Lib.hid ((hb.block _ (Array.getElem?_eq_some_iff.1 Hra_3.out).1).trans Hra_3.out)
  have Hpa_4 := Lib.hid (Hpa_3.out.keep hb)
  clear HB3 Hra_3 Hpa_3
  clear hb
  have Hza : Hid (w1.heap.size < w4.heap.size) := (Array.getElem?_eq_some_iff.1 Hra_4.out).1
  have Hz1 : Hid (w.heap.size ≤ w4.heap.size) := HB4.out.size
  go_wp2_with fail
  refine (HT.out _ (Hv.out.below HB4.out)).mono ?_
  rintro e w5 ⟨u2, rfl, hu, hb⟩
  have hv1 := hu.maniV
  obtain ⟨Ab0, nb0, cb0, Ab1, nb1, cb1, Ab2, nb2, cb2, Ab3, nb3, cb3, rfl, _, _, _, _⟩ := id hv1
  have Hu := Lib.hid hu
  have Hv1 := Lib.hid hv1
  have Hz5 : Hid (w4.heap.size ≤ w5.heap.size) := hb.size
  clear hu hv1 HT
  have HB5 := Lib.hid (bot HB4.out hb)
  have Hra_5 := Lib.hid ((hb.block _ (Array.getElem?_eq_some_iff.1 Hra_4.out).1).trans Hra_4.out)
  have Hpa_5 := Lib.hid (Hpa_4.out.keep hb)
  clear HB4 Hra_4 Hpa_4
  clear hb
  have HC5 : Hid (Below w5.heap.size w5 w5) := Below.refl _ _
  go_upto_region 8 with (fail)
  obtain ⟨w6, hw6⟩ : ∃ w6, w6 = w5.alloc (.cells #[.slice Ab0 nb0 cb0, .slice Ab1 nb1 cb1, .slice Ab2 nb2 cb2, .slice Ab3 nb3 cb3] 47) := ⟨_, rfl⟩
  have hn : w6.heap[w5.heap.size]? = some (.cells #[.slice Ab0 nb0 cb0, .slice Ab1 nb1 cb1, .slice Ab2 nb2 cb2, .slice Ab3 nb3 cb3] 47 (0, 0)) := by rw [hw6]; exact heap_alloc_new w5 _
  have hb : Below w5.heap.size w5 w6 := by rw [hw6]; exact bal (Below.refl _ _) _
  have hzz : w5.heap.size + 1 = w6.heap.size := by rw [hw6]; simp
  rw [← hw6]
  try rw [hzz]
  clear hw6 hzz
  have Hpn := Lib.hid ((Hv1.out).keep hb)
  have HB6 := Lib.hid (bot HB5.out hb)
  have Hra_6 := Lib.hid ((hb.block _ (Array.getElem?_eq_some_iff.1 Hra_5.out).1).trans Hra_5.out)
  have Hpa_6 := Lib.hid (Hpa_5.out.keep hb)
  clear HB5 Hra_5 Hpa_5
  have HC6 := Lib.hid (bot HC5.out hb)
  clear HC5
  have Hrb_6 := Lib.hid hn
  have Hpb_6 := Hpn
  clear hn hb Hpn
  clear Hv1
  obtain ⟨⟨a0, a1, a2, a3⟩, _⟩ := row4 Hra_6.out
  obtain ⟨⟨b0, b1, b2, b3⟩, _⟩ := row4 Hrb_6.out
  go_wp2_with fail
  refine (HM.out _ (Hv.out.below HB6.out) _ _ Hpa_6.out).mono ?_
  rintro e w7 ⟨rfl, hb⟩
  clear a0 a1 a2 a3 b0 b1 b2 b3
  have HB7 := Lib.hid (bot HB6.out hb)
  have Hra_7 := Lib.hid ((hb.block _ (Array.getElem?_eq_some_iff.1 Hra_6.out).1).trans Hra_6.out)
  have Hpa_7 := Lib.hid (Hpa_6.out.keep hb)
  have Hrb_7 := Lib.hid ((hb.block _ (Array.getElem?_eq_some_iff.1 Hrb_6.out).1).trans Hrb_6.out)
  have Hpb_7 := Lib.hid (Hpb_6.out.keep hb)
  clear HB6 Hra_6 Hpa_6 Hrb_6 Hpb_6
  have HC7 := Lib.hid (bot HC6.out hb)
  clear HC6
  clear hb
  obtain ⟨⟨a0, a1, a2, a3⟩, _⟩ := row4 Hra_7.out
  obtain ⟨⟨b0, b1, b2, b3⟩, _⟩ := row4 Hrb_7.out
  go_wp2_with fail
  refine (maniSame_yes p _ _ w7 _ _ Hpa_7.out Hpb_7.out).mono ?_
  rintro e w8 ⟨rfl, hb⟩
  clear a0 a1 a2 a3 b0 b1 b2 b3
  have HB8 := Lib.hid (bot HB7.out hb)
  have Hra_8 := Lib.hid ((hb.block _ (Array.getElem?_eq_some_iff.1 Hra_7.out).1).trans Hra_7.out)
  have Hpa_8 := Lib.hid (Hpa_7.out.keep hb)
  have Hrb_8 := Lib.hid ((hb.block _ (Array.getElem?_eq_some_iff.1 Hrb_7.out).1).trans Hrb_7.out)
  have Hpb_8 := Lib.hid (Hpb_7.out.keep hb)
  clear HB7 Hra_7 Hpa_7 Hrb_7 Hpb_7
  have HC8 := Lib.hid (bot HC7.out hb)
  clear HC7
  clear hb
  obtain ⟨v, l, S, hveq, ⟨hown, hfr, _⟩, _, _, _, hl0⟩ := Hu.out
  have ho := hown 3 (by decide)
  rw [hl0] at ho
  obtain ⟨g, A, c, sz, vs, hv0, hlm, hrow, hvs⟩ := again_of ho hfr
  have hAb : (.slice Ab3 nb3 cb3 : Value) = .slice A p.over.length c := by
    have := congrArg (fun x => match x with | Value.agg cs => cs[3]? | _ => none) hveq
    rw [← hv0]
    exact Option.some.inj (this.trans (show (cellsP [] 4 v)[3]? = some (v 3) from rfl))
  simp only [Value.slice.injEq] at hAb
  obtain ⟨rfl, hnb, rfl⟩ := hAb
  rw [← hnb] at hlm hrow hvs
  have HS : Hid (∀ b, S b → w4.heap.size ≤ b ∧ b < w5.heap.size) := fun b hb => ⟨(hfr b hb).1, fresh_lt (hfr b hb)⟩
  have HR0 : Hid (0 < nb3 → Ab3 = some ⟨g, 0, none⟩ ∧ (w4.heap.size ≤ g ∧ g < w5.heap.size) ∧ AgainR g S sz nb3 vs w8) := fun h => ⟨(hrow h).1, ⟨(hrow h).2.1, (hrow h).2.2.1⟩, (hrow h).2.2.2.keep HC8.out⟩
  have HV := Lib.hid hvs
  unfold maxLen at hlm
  clear hveq hown hfr hl0 ho hv0 hrow hvs hnb Hu HC8
  obtain ⟨X, hX⟩ : ∃ X : Nat → Prop, X = fun b => w4.heap.size ≤ b ∧ b < w5.heap.size := ⟨_, rfl⟩
  have HXS : Hid (∀ b, S b → X b) := fun b hb => by rw [hX]; exact HS.out b hb
  have HXa : Hid (∀ b, X b → w4.heap.size ≤ b ∧ b < w5.heap.size) := fun b hb => by rw [hX] at hb; exact hb
  have HR1 : Hid (0 < nb3 → Ab3 = some ⟨g, 0, none⟩) := fun h => (HR0.out h).1
  have HR2 : Hid (0 < nb3 → AgainR g S sz nb3 vs w8) := fun h => (HR0.out h).2.2
  clear hX HS HR0
  have HXT : Hid (∀ (W : World) (b o : Nat) (x : Value), X b → Turn X W (W.setCell ⟨b, o, none⟩ x)) := fun W b o x h => Turn.setAt W h o x
  go_wp2_with fail
  go_loopw [9] (fun i wr => ∃ k : Nat, k ≤ nb3 ∧ i = .int .i64 k ∧ Hid (0 < nb3 → AgainR g S sz nb3 vs wr) ∧ Hid (Turn X w8 wr)) (fun i _ => nb3 - (intOf i).toNat)
  case atStart => exact ⟨0, Nat.zero_le _, rfl, HR2, Turn.refl _ _⟩
  case round =>
    clear HR2
    obtain ⟨i, hi, rfl, HA, HTn⟩ := hrel
    obtain ⟨w9, hwo⟩ : ∃ w9, w9 = wr := ⟨_, rfl⟩
    subst hwo
    have hqb := HTn.out.at Hrb_8.out (fun h => by have := (HXa.out _ h).2; omega)
    obtain ⟨⟨b0, b1, b2, b3⟩, _⟩ := row4 hqb
    clear b0 b1 b2
    by_cases hlt : i < nb3
    · have hn0 : 0 < nb3 := by omega
      have hI : (i : Int) < (nb3 : Int) := by omega
      have hi0 : (0 : Int) ≤ (i : Int) := by omega
      obtain ⟨Ar, nr, cr, hvr, hrm, hrs⟩ := HV.out i hlt
      have hA := HA.out hn0
      have hr0 := hA.range hlt
      rw [hvr] at hr0
      have hAe := HR1.out hn0
      unfold maxLen at hrm
      subst hAe
      have Hrs := Lib.hid hrs
      have Hvr := Lib.hid hvr
      have HA1 := Lib.hid hA
      have Hqb := Lib.hid hqb
      clear hA hrs hvr hqb HA
      go_wp2_with fail
      go_loopw [10] (fun j wr => ∃ k : Nat, k ≤ nr ∧ j = .int .i64 k ∧ Hid (AgainR g S sz nb3 vs wr) ∧ Hid (Turn X w8 wr)) (fun j _ => nr - (intOf j).toNat)
      case atStart => exact ⟨0, Nat.zero_le _, rfl, HA1, HTn⟩
      case round =>
        clear b3 hr0 Hqb HA1 HTn
        obtain ⟨j, hj, rfl, HA2, HT2⟩ := hrel
        have hqb := HT2.out.at Hrb_8.out (fun h => by have := (HXa.out _ h).2; omega)
        obtain ⟨⟨b0, b1, b2, b3⟩, _⟩ := row4 hqb
        clear b0 b1 b2 hqb
        have hr0 := HA2.out.range hlt
        rw [Hvr.out] at hr0
        by_cases hjt : j < nr
        · have hJ : (j : Int) < (nr : Int) := by omega
          have hj0 : (0 : Int) ≤ (j : Int) := by omega
          obtain ⟨rb, ro, rfl, hSb, hfit⟩ := Hrs.out (by omega)
          have hXb := HXS.out rb hSb
          obtain ⟨x0, c0, f0⟩ := HA2.out.spot hSb (k := ro + j * 6) (by omega)
          obtain ⟨x1, c1, f1⟩ := HA2.out.spot hSb (k := ro + j * 6 + 1) (by omega)
          obtain ⟨x2, c2, f2⟩ := HA2.out.spot hSb (k := ro + j * 6 + 2) (by omega)
          obtain ⟨x3, c3, f3⟩ := HA2.out.spot hSb (k := ro + j * 6 + 3) (by omega)
          obtain ⟨x4, c4, f4⟩ := HA2.out.spot hSb (k := ro + j * 6 + 4) (by omega)
          obtain ⟨x5, c5, f5⟩ := HA2.out.spot hSb (k := ro + j * 6 + 5) (by omega)
          have HSb := Lib.hid hSb
          have HXb := Lib.hid hXb
          clear hSb hXb hfit
          go_wp2_with fail
          go_roundw
          case rel => exact ⟨j + 1, by omega, by go_num, (((((HA2.out.setS HSb.out _ _).setS HSb.out _ _).setS HSb.out _ _).setS HSb.out _ _).setS HSb.out _ _).setS HSb.out _ _, ((((((HT2.out.trans (HXT.out _ _ _ _ HXb.out)).trans (HXT.out _ _ _ _ HXb.out)).trans (HXT.out _ _ _ _ HXb.out)).trans (HXT.out _ _ _ _ HXb.out)).trans (HXT.out _ _ _ _ HXb.out)).trans (HXT.out _ _ _ _ HXb.out))⟩
          case measure => simp [intOf]; omega
        · have hJ : ¬ (j : Int) < (nr : Int) := by omega
          go_wp2_with fail
          go_roundw
          case rel => exact ⟨i + 1, by omega, by go_num, fun _ => HA2.out, HT2.out⟩
          case measure => simp [intOf]; omega
    · have hI : ¬ (i : Int) < (nb3 : Int) := by omega
      have HB9 : Hid (Below w.heap.size w w9) := HB8.out.trans (Turn.below HTn.out HB8.out.size (fun k hk => Nat.le_trans Hz1.out (HXa.out k hk).1))
      have Hra_9 := Lib.hid (HTn.out.at Hra_8.out (fun h => by have := (HXa.out _ h).1; have := Hza.out; omega))
      have Hpa_9 := Lib.hid (Hpa_8.out.turn HTn.out (fun b hb h => by have := fresh_lt hb; have := (HXa.out _ h).1; have := Hza.out; omega))
      have HW9 := Lib.hid (Hv.out.below HB9.out)
      obtain ⟨⟨a0, a1, a2, a3⟩, _⟩ := row4 Hra_9.out
      go_wp2_with fail
      refine (HPr.out _ HW9.out _ _ Hpa_9.out).mono ?_
      rintro e w10 ⟨rfl, hb⟩
      clear a0 a1 a2 a3
      have HB10 := Lib.hid (bot HB9.out hb)
      have Hra_10 := Lib.hid ((hb.block _ (Array.getElem?_eq_some_iff.1 Hra_9.out).1).trans Hra_9.out)
      have Hpa_10 := Lib.hid (Hpa_9.out.keep hb)
      clear HB9 Hra_9 Hpa_9
      clear hb
      go_wp2_with fail
      go_ret
      exact ⟨rfl, HB10.out⟩
theorem maniAgain_law (t : ByteArray) (w : World) (hv : Vok w) (ht : t.size ≤ 1048576) :
    Calls Tryz.prog 12 #[.string t] w fun e w' => e = .returned (.bool true) ∧ Below w.heap.size w w' := by
  rcases maniQ_two t with ⟨k, h, hk⟩ | ⟨p, h, hp⟩
  · exact maniAgain_bad t k h hk w hv ht
  · exact maniAgain_good t p h hp w hv ht
end Go.Proofs.YtldjldkejjeamaaGreatDoor
