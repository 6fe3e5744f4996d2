/-
  The law of packages PackRanges, walked. (Printed by gen_packb.py.)
-/
import Derived.Test.YtldjldkejjeamaaGreatDoorPackLaws
set_option autoImplicit false
set_option relaxedAutoImplicit false
set_option linter.unusedVariables false
set_option linter.unusedSimpArgs false
namespace Go.Proofs.YtldjldkejjeamaaGreatDoor
open Go.Rows Go.RowKit Go.Shelf Go.Sort

def oneLit : ByteArray := ⟨#[112, 97, 99, 107, 97, 103, 101, 32, 97, 32, 49, 46, 48, 46, 48, 10, 110, 101, 101, 100, 115, 32]⟩
theorem oneText_lit (name text : ByteArray) : oneLit ++ name ++ spaceB ++ text ++ nlB = oneText name text := by
  unfold oneText
  rw [show packHead ⟨⟨#[97]⟩, ⟨1, 0, 0⟩, [], [], []⟩ ++ needsW ++ spaceB = oneLit by decide +kernel]
/-- what is read of a text of one range -/
theorem oneText_cases {name text : ByteArray} {l : List Spn} (hn : nameB name = true) (hp : parseQ text = (l, 0)) (h0 : l ≠ []) :
    packQ (oneText name text) = (onePack name l, 0) ∨ packQ (oneText name text) = (packZ, 22) ∨ packQ (oneText name text) = (packZ, 25) := by
  unfold packQ
  rcases oneText_read hn hp h0 with h | h | h <;> rw [h] <;> simp
theorem oneText_yes {name : ByteArray} {l : List Spn} (hn : nameB name = true) (hl : spansB l = true) (h0 : l ≠ []) : packQ (oneText name (spansText l)) = (onePack name l, 0) := by
  unfold packQ; rw [oneText_again hn hl h0]
theorem spansText_fits (l : List Spn) (h : spansB l = true) : (spansText l).size ≤ 5000 := by
  have := parse_text h
  obtain ⟨_, _, hz, _⟩ := parseQ_ok (s := spansText l) (by rw [this])
  omega
theorem spans_yes (A B : Option Addr) (n m c d : Nat) (xs : List Spn) (w : World) (S T : Nat → Prop) (hx : SlV rSpn w S xs (.slice A n c)) (hy : SlV rSpn w T xs (.slice B m d)) : Calls Tryz.prog 26 #[.slice A n c, .slice B m d] w fun e w' => e = .returned (.bool true) ∧ Below w.heap.size w w' := by
  have := refSpansEq_any A B n m c d xs xs w S T hx hy
  rw [eqB_true rfl] at this
  exact this.mono fun e w' h => h

set_option maxHeartbeats 8000000 in
set_option maxRecDepth 100000 in
theorem packRanges_law (name text : ByteArray) (w : World) (hv : Vok w) (hn : name.size ≤ 1048576) (ht : text.size ≤ 1048576) :
    Calls Tryz.prog 7 #[.string name, .string text] w fun e w' => e = .returned (.bool true) ∧ Below w.heap.size w w' := by
  obtain ⟨pl, pe, hpq⟩ : ∃ pl pe, parseQ text = (pl, pe) := ⟨_, _, rfl⟩
  have HF : Hid (∀ W, Calls Tryz.prog 23 #[.string text] W fun e w' => ∃ v, e = .returned (.tuple #[v, .int .i64 pe]) ∧ SlV rSpn w' (fun b => W.heap.size ≤ b) pl v ∧ Below W.heap.size W w') := fun W => by
    have := refParse_any text W (by omega)
    rw [hpq] at this
    exact this
  have HN : Hid (∀ W, Calls Tryz.prog 24 #[.string name] W fun e w' => e = .returned (.bool (nameB name)) ∧ Below W.heap.size W w') := fun W => (refName_any name (Nat.le_trans hn (by decide)) W).mono fun e w' h => ⟨h.1, h.2 ▸ Below.refl _ _⟩
  have Hpq := Lib.hid hpq
  have Hv := Lib.hid hv
  have Hn := Lib.hid hn
  have Ht := Lib.hid ht
  have HB0 : Hid (Below w.heap.size w w) := Below.refl _ _
  clear hv hpq hn ht
  go_enter Tryz.func7, Tryz.ntmps7
  go_wp2_with fail
  refine (known05_any _ Hv.out).mono ?_
  rintro e w1 ⟨rfl, hb⟩
  have HB1 := Lib.hid (bot HB0.out hb)
  clear HB0
  clear hb
  go_wp2_with fail
  refine (HF.out _).mono ?_
  rintro e w2 ⟨v5, rfl, hs, hb⟩
  obtain ⟨A5, c5, rfl, _, _⟩ := hs.val
  have hs' := hs.more (S' := fun b => b < w2.heap.size) fun b _ h => h
  have Hs2 := Lib.hid hs'
  clear hs hs' HF
  have HB2 := Lib.hid (bot HB1.out hb)
  clear HB1
  clear hb
  by_cases hpe : pe = 0
  case neg =>
    have hbe : (pe != 0) = true := by simpa using hpe
    clear hpe HN Hpq
    go_wp2_with fail
    go_ret
    exact ⟨rfl, HB2.out⟩
  subst hpe
  obtain ⟨n5, hn5⟩ : ∃ n, n = pl.length := ⟨_, rfl⟩
  rw [← hn5] at Hs2 ⊢
  have hn54 : (n5 : Int) = (n5 : Int) := rfl
  by_cases hpl : pl = []
  · have hz : n5 = 0 := by rw [hn5, hpl]; rfl
    subst hz
    clear hpl hn5 HN Hpq hn54
    go_wp2_with fail
    go_ret
    exact ⟨rfl, HB2.out⟩
  have hnl : ((n5 : Int) == 0) = false := by
    rw [beq_eq_false_iff_ne]
    have := List.length_pos_iff.2 hpl
    omega
  have Hpl := Lib.hid hpl
  have Hn5 := Lib.hid hn5
  clear hpl hn5 hn54
  go_wp2_with fail
  refine (HN.out _).mono ?_
  rintro e w3 ⟨rfl, hb⟩
  have Hs3 := Lib.hid (Hs2.out.belowSize hb)
  have HB3 := Lib.hid (bot HB2.out hb)
  clear HB2
  clear hb
  clear Hs2 HN
  cases hnm : nameB name with
  | false =>
    clear hnm Hpq
    go_wp2_with fail
    go_ret
    exact ⟨rfl, HB3.out⟩
  | true =>
  have hsp : spansB pl = true := by
    obtain ⟨_, _, _, _, h, _⟩ := parseQ_ok (s := text) (by rw [Hpq.out])
    rw [Hpq.out] at h
    exact h
  have hc1 := oneText_cases hnm Hpq.out Hpl.out
  have hc2 := oneText_yes hnm hsp Hpl.out
  have hnz : name.size ≤ 16 := nameB_size hnm
  have htz := Ht.out
  have hsz := spansText_fits pl hsp
  have z1 : spaceB.size = 1 := rfl
  have z2 : nlB.size = 1 := rfl
  have z3 : oneLit.size = 22 := rfl
  have ho1 : (oneText name text).size ≤ 2000000 := by rw [← oneText_lit]; simp only [ByteArray.size_append]; omega
  have ho2 : (oneText name (spansText pl)).size ≤ 2000000 := by rw [← oneText_lit]; simp only [ByteArray.size_append]; omega
  obtain ⟨p, k, hpk⟩ : ∃ p k, packQ (oneText name text) = (p, k) := ⟨_, _, rfl⟩
  rw [hpk] at hc1
  have HP1 : Hid (∀ W, Vok W → Calls Tryz.prog 21 #[.string (oneText name text)] W fun e w' => ∃ u, e = .returned (.tuple #[u, .int .i64 k]) ∧ PackO w' W.heap.size p u ∧ Below W.heap.size W w') := fun W hW => by
    have := packParseO_any (oneText name text) W hW (by omega)
    rw [hpk] at this
    exact this
  have HP2 : Hid (∀ W, Vok W → Calls Tryz.prog 21 #[.string (oneText name (spansText pl))] W fun e w' => ∃ u, e = .returned (.tuple #[u, .int .i64 0]) ∧ PackO w' W.heap.size (onePack name pl) u ∧ Below W.heap.size W w') := fun W hW => by
    have := packParseO_any (oneText name (spansText pl)) W hW (by omega)
    rw [hc2] at this
    exact this
  have E1 : ∀ W : World, (Op.stringOp .add ⟨#[112, 97, 99, 107, 97, 103, 101, 32, 97, 32, 49, 46, 48, 46, 48, 10, 110, 101, 101, 100, 115, 32]⟩ name).run Tryz.prog W = .ok (.string (oneLit ++ name)) W := fun W => run_string_add_sum W oneLit name (by omega)
  have E2 : ∀ W : World, (Op.stringOp .add (oneLit ++ name) ⟨#[32]⟩).run Tryz.prog W = .ok (.string (oneLit ++ name ++ spaceB)) W := fun W => run_string_add_sum W _ spaceB (by simp only [ByteArray.size_append]; omega)
  have E3 : ∀ W : World, (Op.stringOp .add (oneLit ++ name ++ spaceB) text).run Tryz.prog W = .ok (.string (oneLit ++ name ++ spaceB ++ text)) W := fun W => run_string_add_sum W _ text (by simp only [ByteArray.size_append]; omega)
  have E4 : ∀ W : World, (Op.stringOp .add (oneLit ++ name ++ spaceB ++ text) ⟨#[10]⟩).run Tryz.prog W = .ok (.string (oneText name text)) W := fun W => by rw [← oneText_lit]; exact run_string_add_sum W _ nlB (by simp only [ByteArray.size_append]; omega)
  have F3 : ∀ W : World, (Op.stringOp .add (oneLit ++ name ++ spaceB) (spansText pl)).run Tryz.prog W = .ok (.string (oneLit ++ name ++ spaceB ++ spansText pl)) W := fun W => run_string_add_sum W _ _ (by simp only [ByteArray.size_append]; omega)
  have F4 : ∀ W : World, (Op.stringOp .add (oneLit ++ name ++ spaceB ++ spansText pl) ⟨#[10]⟩).run Tryz.prog W = .ok (.string (oneText name (spansText pl))) W := fun W => by rw [← oneText_lit]; exact run_string_add_sum W _ nlB (by simp only [ByteArray.size_append]; omega)
  have HR : Hid (∀ W, SlV rSpn W (fun b => b < w2.heap.size) pl (.slice A5 n5 c5) → Calls Tryz.prog 25 #[.slice A5 n5 c5] W fun e w' => e = .returned (.string (spansText pl)) ∧ Below W.heap.size W w') := fun W h => refSpanPrint_any A5 n5 c5 pl W _ h
  have Hc1 := Lib.hid hc1
  clear hc1 hc2 hpk hnz htz hsz z1 z2 z3 ho1 ho2 hsp hnm Ht
  generalize oneText name text = T1 at *
  generalize oneText name (spansText pl) = T2 at *
  generalize oneLit ++ name ++ spaceB ++ text = U1 at *
  generalize oneLit ++ name ++ spaceB ++ spansText pl = U2 at *
  generalize oneLit ++ name ++ spaceB = U3 at *
  generalize oneLit ++ name = U4 at *
  generalize spansText pl = U5 at *
  go_wp2_with fail
  refine (HP1.out _ (Hv.out.below HB3.out)).mono ?_
  rintro e w4 ⟨u, rfl, hu, hb⟩
  have hv1 := hu.packV
  have Hs4 := Lib.hid (Hs3.out.belowSize hb)
  obtain ⟨Aa, na, ca, Ba, ma, da, Ca, ka, ea, rfl, hza, _, _, _⟩ := id hv1
  have Hv1 := Lib.hid hv1
  clear hu hv1 HP1 Hs3 E3 E4
  have HB4 := Lib.hid (bot HB3.out hb)
  clear HB3
  clear hb
  go_upto_region 7 with (fail)
  obtain ⟨w5, hw5⟩ : ∃ w5, w5 = w4.alloc (.cells #[.string p.name, .int .i64 p.ver.major, .int .i64 p.ver.minor, .int .i64 p.ver.patch, .slice Aa na ca, .slice Ba ma da, .slice Ca ka ea] 26) := ⟨_, rfl⟩
  have hn : w5.heap[w4.heap.size]? = some (.cells #[.string p.name, .int .i64 p.ver.major, .int .i64 p.ver.minor, .int .i64 p.ver.patch, .slice Aa na ca, .slice Ba ma da, .slice Ca ka ea] 26 (0, 0)) := by rw [hw5]; exact heap_alloc_new w4 _
  have hb : Below w4.heap.size w4 w5 := by rw [hw5]; exact bal (Below.refl _ _) _
  have Hs5 := Lib.hid (Hs4.out.belowSize hb)
  have hzz : w4.heap.size + 1 = w5.heap.size := by rw [hw5]; simp
  rw [← hw5]
  try rw [hzz]
  clear hw5 hzz
  have Hpn := Lib.hid ((Hv1.out).keep hb)
  have HB5 := Lib.hid (bot HB4.out hb)
  clear HB4
  have Hra_5 := Lib.hid hn
  have Hpa_5 := Hpn
  clear hn hb Hpn
  clear Hv1 Hs4
  go_wp2_with fail
  refine (HR.out _ Hs5.out).mono ?_
  rintro e w6 ⟨rfl, hb⟩
  have Hs6 := Lib.hid (Hs5.out.belowSize hb)
  have HB6 := Lib.hid (bot HB5.out hb)
  have Hra_6 := Lib.hid ((hb.block _ (Array.getElem?_eq_some_iff.1 Hra_5.out).1).trans Hra_5.out)
  have Hpa_6 := Lib.hid (Hpa_5.out.keep hb)
  clear HB5 Hra_5 Hpa_5
  clear hb
  clear Hs5 HR
  go_wp2_with fail
  refine (HP2.out _ (Hv.out.below HB6.out)).mono ?_
  rintro e w7 ⟨u, rfl, hu, hb⟩
  have hv1 := hu.packV
  have Hs7 := Lib.hid (Hs6.out.belowSize hb)
  obtain ⟨Ab, nb, cb, Bb, mb, db, Cb, kb, eb, rfl, hzb, _, _, _⟩ := id hv1
  have Hv1 := Lib.hid hv1
  clear hu hv1 HP2 Hs6 E1 E2 F3 F4
  have HB7 := Lib.hid (bot HB6.out hb)
  have Hra_7 := Lib.hid ((hb.block _ (Array.getElem?_eq_some_iff.1 Hra_6.out).1).trans Hra_6.out)
  have Hpa_7 := Lib.hid (Hpa_6.out.keep hb)
  clear HB6 Hra_6 Hpa_6
  clear hb
  go_upto_region 8 with (fail)
  obtain ⟨w8, hw8⟩ : ∃ w8, w8 = w7.alloc (.cells #[.string (onePack name pl).name, .int .i64 (onePack name pl).ver.major, .int .i64 (onePack name pl).ver.minor, .int .i64 (onePack name pl).ver.patch, .slice Ab nb cb, .slice Bb mb db, .slice Cb kb eb] 26) := ⟨_, rfl⟩
  have hn : w8.heap[w7.heap.size]? = some (.cells #[.string (onePack name pl).name, .int .i64 (onePack name pl).ver.major, .int .i64 (onePack name pl).ver.minor, .int .i64 (onePack name pl).ver.patch, .slice Ab nb cb, .slice Bb mb db, .slice Cb kb eb] 26 (0, 0)) := by rw [hw8]; exact heap_alloc_new w7 _
  have hb : Below w7.heap.size w7 w8 := by rw [hw8]; exact bal (Below.refl _ _) _
  have Hs8 := Lib.hid (Hs7.out.belowSize hb)
  have hzz : w7.heap.size + 1 = w8.heap.size := by rw [hw8]; simp
  rw [← hw8]
  try rw [hzz]
  clear hw8 hzz
  have Hpn := Lib.hid ((Hv1.out).keep hb)
  have HB8 := Lib.hid (bot HB7.out hb)
  have Hra_8 := Lib.hid ((hb.block _ (Array.getElem?_eq_some_iff.1 Hra_7.out).1).trans Hra_7.out)
  have Hpa_8 := Lib.hid (Hpa_7.out.keep hb)
  clear HB7 Hra_7 Hpa_7
  have Hrb_8 := Lib.hid hn
  have Hpb_8 := Hpn
  clear hn hb Hpn
  clear Hv1 Hs7
  rcases Hc1.out with h | h | h
  focus
    obtain ⟨rfl, rfl⟩ := Prod.mk.inj h
    clear h Hc1
    obtain ⟨⟨a0, a1, a2, a3, a4, a5, a6⟩, _⟩ := row7 Hra_8.out
    obtain ⟨⟨b0, b1, b2, b3, b4, b5, b6⟩, _⟩ := row7 Hrb_8.out
    go_wp2_with fail
    refine (packSame_yes (onePack name pl) _ _ w8 _ _ Hpa_8.out Hpb_8.out).mono ?_
    rintro e w9 ⟨rfl, hb⟩
    have Hs9 := Lib.hid (Hs8.out.belowSize hb)
    clear a0 a1 a2 a3 a4 a5 a6 b0 b1 b2 b3 b4 b5 b6
    have HB9 := Lib.hid (bot HB8.out hb)
    have Hra_9 := Lib.hid ((hb.block _ (Array.getElem?_eq_some_iff.1 Hra_8.out).1).trans Hra_8.out)
    have Hpa_9 := Lib.hid (Hpa_8.out.keep hb)
    have Hrb_9 := Lib.hid ((hb.block _ (Array.getElem?_eq_some_iff.1 Hrb_8.out).1).trans Hrb_8.out)
    have Hpb_9 := Lib.hid (Hpb_8.out.keep hb)
    clear HB8 Hra_8 Hpa_8 Hrb_8 Hpb_8
    clear hb
    obtain ⟨A1', n1', c1', A2', n2', c2', A3', n3', c3', he, _, hd, _, _⟩ := Hpa_9.out
    simp only [Value.agg.injEq] at he
    have he := congrArg Array.toList he
    simp only [List.cons.injEq, Value.slice.injEq, and_true] at he
    obtain ⟨_, _, _, _, ⟨rfl, rfl, rfl⟩, _⟩ := he
    have hd1 : na = 1 := hd.n_eq
    subst hd1
    obtain ⟨bd, od, cs, rfl, _, _, ⟨s0, rfl, _, hsr⟩, hcell⟩ := hd.elem (i := 0) (x := ⟨name, pl⟩) rfl
    have e1 := hcell 1 _ rfl
    simp only [Nat.zero_mul, Nat.add_zero] at e1
    obtain ⟨A9, c9, rfl, _, _⟩ := hsr.val
    have hpln := Hn5.out
    rw [← show n5 = pl.length from hpln] at e1 hsr
    have Hsr := Lib.hid hsr
    clear hcell hsr hpln hd Hs8
    obtain ⟨⟨a0, a1, a2, a3, a4, a5, a6⟩, _⟩ := row7 Hra_9.out
    go_wp2_with fail
    refine (spans_yes _ _ _ _ _ _ pl w9 _ _ Hsr.out Hs9.out).mono ?_
    rintro e w10 ⟨rfl, hb⟩
    go_wp2_with fail
    go_ret
    exact ⟨rfl, bot HB9.out hb⟩
  all_goals
    obtain ⟨rfl, rfl⟩ := Prod.mk.inj h
    clear h Hc1
    go_wp2_with fail
    go_ret
    exact ⟨rfl, HB8.out⟩
end Go.Proofs.YtldjldkejjeamaaGreatDoor
