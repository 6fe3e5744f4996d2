/-
  pack.Parse: a package is read, walked.
-/
import Derived.Test.YtldjldkejjeamaaGreatDoorPackE
import Derived.Test.YtldjldkejjeamaaGreatDoorDepA
import Derived.Test.YtldjldkejjeamaaGreatDoorScanL
import Derived.Test.YtldjldkejjeamaaGreatDoorPackN
import Derived.Deep.RegionLaw
set_option autoImplicit false
set_option relaxedAutoImplicit false
set_option linter.unusedVariables false
set_option linter.unusedSimpArgs false
namespace Go.Proofs.YtldjldkejjeamaaGreatDoor
open Go.Rows Go.RowKit Go.Shelf Go.Sort

set_option maxHeartbeats 8000000 in
set_option maxRecDepth 100000 in
theorem packParseO_any (t : ByteArray) (w : World) (hv : Vok w) (ht : t.size ≤ 4611686018427387904) :
    Calls Tryz.prog 21 #[.string t] w fun e w' => ∃ u, e = .returned (.tuple #[u, .int .i64 (packQ t).2]) ∧ PackO w' w.heap.size (packQ t).1 u ∧ Below w.heap.size w w' := by
  obtain ⟨L, en, hQ⟩ : ∃ L en, scanQ 4096 t = (L, en) := ⟨_, _, rfl⟩
  have hbd := scan_bounds (most := 4096) (t := t)
  rw [hQ] at hbd
  obtain ⟨hL1, hL2⟩ := hbd
  simp only at hL1 hL2
  have Hsc : Hid (∀ W, Calls Tryz.prog 47 #[.string t, .int .i64 4096] W fun e w' => ∃ v, (∃ k : Int, e = .returned (.tuple #[v, .int .i64 en, .int .i64 k])) ∧ SlV (rSlice rStr) w' (fun b => W.heap.size ≤ b) L v ∧ Below W.heap.size W w') := fun W => by
    have := scanLines_any t 4096 W (by decide) ht
    rw [hQ] at this
    exact this
  have K0 : Hid (en ≠ 0 → packQ t = (packZ, en)) := fun h => packQ_bad hQ h
  have K1 : Hid (en = 0 → (∀ a b c r, L ≠ [a, b, c] :: r) → packQ t = (packZ, 22)) := fun h h2 => packQ_form (by rw [← h]; exact hQ) h2
  have K2 := Lib.hid (fun (h : en = 0) a nm vs rest (hl : L = [a, nm, vs] :: rest) => packQ_line (t := t) (a := a) (nm := nm) (vs := vs) (rest := rest) (by rw [← h, ← hl]; exact hQ))
  have Hv := Lib.hid hv
  have HL1 := Lib.hid hL1
  have HL2 := Lib.hid hL2
  clear hv hL1 hL2 hQ
  generalize packQ t = R at *
  go_enter Tryz.func21, Tryz.ntmps21
  go_wp2_with fail
  obtain ⟨w0, hw0⟩ : ∃ w0, w0 = w.alloc (.cells #[.string ⟨#[]⟩, .int .i64 0, .int .i64 0, .int .i64 0, .slice none 0 0, .slice none 0 0, .slice none 0 0] 26) := ⟨_, rfl⟩
  have hr0 : w0.heap[w.heap.size]? = some (.cells #[.string ⟨#[]⟩, .int .i64 0, .int .i64 0, .int .i64 0, .slice none 0 0, .slice none 0 0, .slice none 0 0] 26 (0, 0)) := by rw [hw0]; exact heap_alloc_new w _
  have HB0 : Hid (Below w.heap.size w w0) := by unfold Hid; rw [hw0]; exact bal (Below.refl _ _) _
  have hz0 : w.heap.size < w0.heap.size := (Array.getElem?_eq_some_iff.1 hr0).1
  rw [← hw0]
  clear hw0
  have Hr0 := Lib.hid hr0
  have Hz0 := Lib.hid hz0
  clear hr0 hz0
  refine (Hsc.out w0).mono ?_
  rintro e w1 ⟨vL, ⟨kk, rfl⟩, hL, hb1⟩
  have Hr1 := Lib.hid ((hb1.block _ Hz0.out).trans Hr0.out)
  have HB1 := Lib.hid (bot HB0.out hb1)
  have hz1 : w.heap.size < w1.heap.size := Nat.lt_of_lt_of_le Hz0.out hb1.size
  have hL' := hL.more (S' := fun b => b < w1.heap.size) fun b _ h => h
  obtain ⟨AL, cL, rfl, hcl, hcm⟩ := hL'.val
  obtain ⟨n, hn⟩ : ∃ n, n = L.length := ⟨_, rfl⟩
  have hcl2 : n ≤ cL := by rw [hn]; exact hcl
  unfold maxLen at hcm
  have hn7 : n ≤ 4097 := by rw [hn]; exact HL1.out
  rw [← hn] at hL' ⊢
  clear hL hb1 HB0 Hr0 Hz0 Hsc hcl
  have HL := Lib.hid hL'
  have Hn := Lib.hid hn
  clear hL' hn
  by_cases he : en = 0
  case neg =>
    have hbe : (en != 0) = true := by simpa using he
    have hq := K0.out he
    subst hq
    obtain ⟨⟨a0, a1, a2, a3, a4, a5, a6⟩, f0, f1, f2, f3, f4, f5, f6⟩ := row7 Hr1.out
    clear he K0 K1 K2
    go_wp2_with fail
    refine ret_cells rfl rfl rfl rfl (heap_set7 Hr1.out _ _ _ _ _ _ _) Tryz.underlying26 rfl (by kernel_rfl) ⟨_, rfl, PackO.zero _ _, below_set7 HB1.out (Nat.le_refl _) _ _ _ _ _ _ _⟩
  have K1' := Lib.hid (K1.out he)
  have K2' := Lib.hid (K2.out he)
  clear K0 K1 K2
  subst he
  cases L with
  | nil =>
    have hq := K1'.out (by intro a b c r e; cases e)
    subst hq
    have hn0 : n = 0 := Hn.out
    subst hn0
    obtain ⟨⟨a0, a1, a2, a3, a4, a5, a6⟩, f0, f1, f2, f3, f4, f5, f6⟩ := row7 Hr1.out
    clear K1' K2'
    go_wp2_with fail
    refine ret_cells rfl rfl rfl rfl (heap_set7 Hr1.out _ _ _ _ _ _ _) Tryz.underlying26 rfl (by kernel_rfl) ⟨_, rfl, PackO.zero _ _, below_set7 HB1.out (Nat.le_refl _) _ _ _ _ _ _ _⟩
  | cons ws0 rest =>
  have hnr : n = rest.length + 1 := Hn.out
  obtain ⟨b0, o0, rfl, _, hb0⟩ := HL.out.at (by simp)
  obtain ⟨A0, cc0, c0, hs0⟩ := HL.out.row (i := 0) (x := ws0) rfl
  rw [Nat.add_zero] at c0
  have Hs0 := Lib.hid hs0
  clear hs0
  obtain ⟨m, hm⟩ : ∃ m, m = ws0.length := ⟨_, rfl⟩
  rw [← hm] at c0 Hs0
  have hn0 : ((n : Int) == 0) = false := by rw [beq_eq_false_iff_ne]; omega
  have hn1 : 0 < n := by omega
  have hnI : (0 : Int) < (n : Int) := by omega
  by_cases hm3 : m = 3
  case neg =>
    have hq := K1'.out (by rintro a b c r e; cases e; simp at hm; omega)
    subst hq
    have hbe : ((m : Int) != 3) = true := by rw [bne_iff_ne]; omega
    obtain ⟨⟨a0, a1, a2, a3, a4, a5, a6⟩, f0, f1, f2, f3, f4, f5, f6⟩ := row7 Hr1.out
    clear K1' K2' hnr hm hm3
    go_wp2_with fail
    refine ret_cells rfl rfl rfl rfl (heap_set7 Hr1.out _ _ _ _ _ _ _) Tryz.underlying26 rfl (by kernel_rfl) ⟨_, rfl, PackO.zero _ _, below_set7 HB1.out (Nat.le_refl _) _ _ _ _ _ _ _⟩
  obtain ⟨a, nm, vs, rfl⟩ : ∃ a nm vs, ws0 = [a, nm, vs] := by
    match ws0, hm with
    | [], h => simp at h; omega
    | [_], h => simp at h; omega
    | [_, _], h => simp at h; omega
    | [a, nm, vs], _ => exact ⟨a, nm, vs, rfl⟩
    | _ :: _ :: _ :: _ :: _, h => simp at h; omega
  subst hm3
  clear hm
  obtain ⟨b1, o1, rfl, _, hb1⟩ := Hs0.out.at (by simp)
  obtain ⟨d0, _⟩ := Hs0.out.str (i := 0) (x := a) rfl
  obtain ⟨d1, hnz⟩ := Hs0.out.str (i := 1) (x := nm) rfl
  obtain ⟨d2, hvz⟩ := Hs0.out.str (i := 2) (x := vs) rfl
  rw [Nat.add_zero] at d0
  obtain ⟨K22, K2r⟩ := K2'.out a nm vs rest rfl
  have K22' := Lib.hid K22
  have K2r' := Lib.hid K2r
  have hvs1 : vs.size ≤ 1000000 := by
    have := (HL2.out [a, nm, vs] (by simp)).2.2
    have h1 := joinS_tail a [nm, vs]
    have h2 := joinS_tail nm [vs]
    have h3 : (joinS [vs]).size = vs.size := by
      rw [size_data, size_data]; unfold joinS; simp [mkB, Lib.join, Lib.joinTail]
    omega
  clear K2' K1' K22 K2r Hs0
  by_cases ha : a = packageW
  case neg =>
    have hq := K22'.out ha
    subst hq
    have hbe : (a.toList == [112, 97, 99, 107, 97, 103, 101]) = false := by
      rw [beq_eq_false_iff_ne]
      exact fun e => ha (data_inj (by rw [← Go.ByteArray.toList_eq, e]; rfl))
    obtain ⟨⟨a0, a1, a2, a3, a4, a5, a6⟩, f0, f1, f2, f3, f4, f5, f6⟩ := row7 Hr1.out
    clear K22' K2r' ha hnr
    go_wp2_with fail
    refine ret_cells rfl rfl rfl rfl (heap_set7 Hr1.out _ _ _ _ _ _ _) Tryz.underlying26 rfl (by kernel_rfl) ⟨_, rfl, PackO.zero _ _, below_set7 HB1.out (Nat.le_refl _) _ _ _ _ _ _ _⟩
  have hbe : (a.toList == [112, 97, 99, 107, 97, 103, 101]) = true := by rw [ha]; decide +kernel
  obtain ⟨K23, K2v⟩ := K2r'.out ha
  have K23' := Lib.hid K23
  have K2v' := Lib.hid K2v
  have HN : Hid (∀ W, Calls Tryz.prog 36 #[.string nm] W fun e w' => e = .returned (.bool (nameB nm)) ∧ Below W.heap.size W w') := fun W => scanName_any nm hnz W
  have Hnz := Lib.hid hnz
  have HLr := Lib.hid (HL.out.cut 1 hn1)
  rw [List.drop_one, List.tail_cons] at HLr
  have Hb0 := Lib.hid hb0; have Hb1 := Lib.hid hb1
  have Hnr := Lib.hid hnr
  clear K2r' K22' K23 K2v ha hnz HL Hn hb0 hb1 hnr
  go_wp2_with fail
  obtain ⟨w2, hw2⟩ : ∃ w2, w2 = w1.alloc (.cells #[.string nm, .int .i64 0, .int .i64 0, .int .i64 0, .slice none 0 0, .slice none 0 0, .slice none 0 0] 26) := ⟨_, rfl⟩
  have hP2 : PartsAt w1.heap.size [.string nm, .int .i64 0, .int .i64 0, .int .i64 0] 26 3 w2 (fun _ => .slice none 0 0) := by rw [hw2]; exact heap_alloc_new w1 _
  have HB2 : Hid (Below w1.heap.size w1 w2) := by unfold Hid; rw [hw2]; exact bal (Below.refl _ _) _
  have hz2 : w1.heap.size < w2.heap.size := hP2.lt
  have p0 : w2.cell? ⟨w1.heap.size, 0, none⟩ = some (.string nm) := cell_of_row _ _ 0 _ _ _ hP2
  rw [← hw2]
  clear hw2
  have HP2 := Lib.hid hP2
  clear hP2
  refine (HN.out w2).mono ?_
  rintro e w3 ⟨rfl, hb3⟩
  have HP3 := Lib.hid (HP2.out.keep hb3)
  have HB3 := Lib.hid (bot HB2.out hb3)
  have Hr3 := Lib.hid ((HB3.out.block _ hz1).trans Hr1.out)
  have hz3 : w1.heap.size < w3.heap.size := HP3.out.lt
  have c03 := below_cell HB3.out c0 Hb0.out
  have d23 := below_cell HB3.out d2 Hb1.out
  clear hb3 HP2 HB2 hz2 p0 HN
  cases hnb : nameB nm with
  | false =>
    have hq := K23'.out hnb
    subst hq
    obtain ⟨⟨a0, a1, a2, a3, a4, a5, a6⟩, f0, f1, f2, f3, f4, f5, f6⟩ := row7 Hr3.out
    clear K23' K2v' hnb
    go_wp2_with fail
    refine ret_cells rfl rfl rfl rfl (heap_set7 Hr3.out _ _ _ _ _ _ _) Tryz.underlying26 rfl (by kernel_rfl) ⟨_, rfl, PackO.zero _ _, below_set7 (bot HB1.out HB3.out) (Nat.le_refl _) _ _ _ _ _ _ _⟩
  | true =>
  obtain ⟨K20, K2L⟩ := K2v'.out hnb
  have K20' := Lib.hid K20
  have K2L' := Lib.hid K2L
  clear K23' K2v' K20 K2L hnb c0 d0 d1 d2 hbe
  cases hvp : vparse vs with
  | none =>
    have hq := K20'.out hvp
    subst hq
    have HV : Hid (∀ W, Vok W → Calls Tryz.prog 48 #[.string vs] W fun e w' => e = .returned (.tuple #[.agg #[.int .i64 0, .int .i64 0, .int .i64 0], .bool false]) ∧ Below W.heap.size W w') := fun W hW => by
      have := versParse_any vs W hW hvs1
      rw [hvp] at this
      exact this
    clear K20' K2L' hvp
    go_wp2_with fail
    refine (HV.out _ (Hv.out.below (bot HB1.out HB3.out))).mono ?_
    rintro e w4 ⟨rfl, hb4⟩
    go_upto_region 10 with (fail)
    obtain ⟨w5, hw5⟩ : ∃ w5, w5 = w4.alloc (.cells #[.int .i64 0, .int .i64 0, .int .i64 0] 23) := ⟨_, rfl⟩
    have HB5 : Hid (Below w3.heap.size w3 w5) := by unfold Hid; rw [hw5]; exact bal hb4 _
    rw [← hw5]
    have hr5 := (HB5.out.block _ (Nat.lt_trans hz1 hz3)).trans Hr3.out
    obtain ⟨⟨a0, a1, a2, a3, a4, a5, a6⟩, f0, f1, f2, f3, f4, f5, f6⟩ := row7 hr5
    have Hr5 := Lib.hid hr5
    clear hw5 hb4 hr5
    go_wp2_with fail
    refine ret_cells rfl rfl rfl rfl (heap_set7 Hr5.out _ _ _ _ _ _ _) Tryz.underlying26 rfl (by kernel_rfl) ⟨_, rfl, PackO.zero _ _, below_set7 (bot (bot HB1.out HB3.out) HB5.out) (Nat.le_refl _) _ _ _ _ _ _ _⟩
  | some ver =>
  obtain ⟨K2e, K2l⟩ := K2L'.out ver hvp |> fun h => (⟨h.1, h.2⟩ : _ ∧ _)
  have K2e' := Lib.hid K2e
  have K2l' := Lib.hid K2l
  have HV : Hid (∀ W, Vok W → Calls Tryz.prog 48 #[.string vs] W fun e w' => e = .returned (.tuple #[.agg #[.int .i64 ver.major, .int .i64 ver.minor, .int .i64 ver.patch], .bool true]) ∧ Below W.heap.size W w') := fun W hW => by
    have := versParse_any vs W hW hvs1
    rw [hvp] at this
    exact this
  clear K20' K2L' hvp K2e K2l
  go_wp2_with fail
  refine (HV.out _ (Hv.out.below (bot HB1.out HB3.out))).mono ?_
  rintro e w4 ⟨rfl, hb4⟩
  go_upto_region 10 with (fail)
  obtain ⟨x1, x2, x3⟩ := ver
  simp only at K2e' K2l' ⊢
  obtain ⟨w5, hw5⟩ : ∃ w5, w5 = w4.alloc (.cells #[.int .i64 x1, .int .i64 x2, .int .i64 x3] 23) := ⟨_, rfl⟩
  have HB5 : Hid (Below w3.heap.size w3 w5) := by unfold Hid; rw [hw5]; exact bal hb4 _
  have hv5 : w5.heap[w4.heap.size]? = some (.cells #[.int .i64 x1, .int .i64 x2, .int .i64 x3] 23 (0, 0)) := by rw [hw5]; exact heap_alloc_new w4 _
  rw [← hw5]
  have HP5 := Lib.hid (HP3.out.keep HB5.out)
  have Hr5 := Lib.hid ((HB5.out.block _ (Nat.lt_trans hz1 hz3)).trans Hr3.out)
  obtain ⟨⟨v0, v1, v2⟩, _⟩ := row3 hv5
  have p1 : w5.cell? ⟨w1.heap.size, 1, none⟩ = some (.int .i64 0) := cell_of_row _ _ 1 _ _ _ HP5.out
  have p2 : w5.cell? ⟨w1.heap.size, 2, none⟩ = some (.int .i64 0) := cell_of_row _ _ 2 _ _ _ HP5.out
  have p3 : w5.cell? ⟨w1.heap.size, 3, none⟩ = some (.int .i64 0) := cell_of_row _ _ 3 _ _ _ HP5.out
  have q1 := HP5.out.free 1
  have q2 := HP5.out.free 2
  have q3 := HP5.out.free 3
  clear hw5 hb4 hv5 HV
  go_upto_region 13 with (fail)
  obtain ⟨w6, hw6⟩ : ∃ w6, w6 = ((w5.setCell ⟨w1.heap.size, 1, none⟩ (.int .i64 x1)).setCell ⟨w1.heap.size, 2, none⟩ (.int .i64 x2)).setCell ⟨w1.heap.size, 3, none⟩ (.int .i64 x3) := ⟨_, rfl⟩
  have HP6 : Hid (PartsAt w1.heap.size [.string nm, .int .i64 x1, .int .i64 x2, .int .i64 x3] 26 3 w6 (fun _ => .slice none 0 0)) := by
    unfold Hid
    rw [hw6]
    exact ((HP5.out.head (i := 1) (by simp) (.int .i64 x1)).head (i := 2) (by simp) (.int .i64 x2)).head (i := 3) (by simp) (.int .i64 x3)
  have HB6 : Hid (Below w1.heap.size w1 w6) := by
    unfold Hid
    rw [hw6]
    exact (((bot HB3.out HB5.out).setCell (Nat.le_refl _) _).setCell (Nat.le_refl _) _).setCell (Nat.le_refl _) _
  rw [← hw6]
  have Hr6 := Lib.hid ((HB6.out.block _ hz1).trans Hr1.out)
  have hz6 : w1.heap.size < w6.heap.size := HP6.out.lt
  clear hw6 HP5 Hr5 HB5 HB3 HP3 v0 v1 v2 p1 p2 p3 q1 q2 q3 Hr3 Hr1 hz3
  have hsl : ∀ W, (Instr.slice 58 (.slice (some ⟨b0, o0, none⟩) n cL) (some (.int .i64 1)) none none).run Tryz.prog W = .ok (.slice (if cL = 1 then some ⟨b0, o0, none⟩ else Option.map (fun x : Addr => x.add (1 * 1)) (some (⟨b0, o0, none⟩ : Addr))) (n - 1) (cL - 1)) W := fun W =>
    run_from (P := Tryz.prog) (t := 58) (e := 61) (z := 1) Tryz.underlying58 (by kernel_rfl) (fun _ => by kernel_rfl) (some ⟨b0, o0, none⟩) n cL 1 hn1 W
  obtain ⟨X, hX⟩ : ∃ X, X = (if cL = 1 then some (⟨b0, o0, none⟩ : Addr) else Option.map (fun x : Addr => x.add (1 * 1)) (some (⟨b0, o0, none⟩ : Addr))) := ⟨_, rfl⟩
  have HLq : Hid (SlV (rSlice rStr) w1 (fun b => b < w1.heap.size) rest (.slice X (n - 1) (cL - 1))) := by unfold Hid; rw [hX]; exact HLr.out
  rw [← hX] at hsl
  obtain ⟨ln, hln⟩ : ∃ ln, ln = n - 1 := ⟨_, rfl⟩
  rw [← hln] at hsl HLq
  have Hln : Hid (rest.length = ln) := by have := Hnr.out; unfold Hid; omega
  have hln7 : ln ≤ 4097 := by omega
  clear hX hln HLr
  go_upto_region 16 with (fail)
  obtain ⟨w8, hw8⟩ : ∃ w8, w8 = (w6.alloc (.cells #[.string ⟨#[110, 101, 101, 100, 115]⟩, .string ⟨#[98, 101, 115, 105, 100, 101]⟩, .string ⟨#[108, 105, 107, 101, 115]⟩] 9)).alloc (.cells #[.pointer (some ⟨w1.heap.size, 4, none⟩), .pointer (some ⟨w1.heap.size, 5, none⟩), .pointer (some ⟨w1.heap.size, 6, none⟩)] 64) := ⟨_, rfl⟩
  have hWB : w8.heap[w6.heap.size]? = some (.cells #[.string ⟨#[110, 101, 101, 100, 115]⟩, .string ⟨#[98, 101, 115, 105, 100, 101]⟩, .string ⟨#[108, 105, 107, 101, 115]⟩] 9 (0, 0)) := by
    rw [hw8]
    exact (Below.heap_alloc _ _ _ (by simp)).trans (heap_alloc_new w6 _)
  have hLB : w8.heap[w6.heap.size + 1]? = some (.cells #[.pointer (some ⟨w1.heap.size, 4, none⟩), .pointer (some ⟨w1.heap.size, 5, none⟩), .pointer (some ⟨w1.heap.size, 6, none⟩)] 64 (0, 0)) := by
    rw [hw8]
    have := heap_alloc_new (w6.alloc (.cells #[.string ⟨#[110, 101, 101, 100, 115]⟩, .string ⟨#[98, 101, 115, 105, 100, 101]⟩, .string ⟨#[108, 105, 107, 101, 115]⟩] 9)) (.cells #[.pointer (some ⟨w1.heap.size, 4, none⟩), .pointer (some ⟨w1.heap.size, 5, none⟩), .pointer (some ⟨w1.heap.size, 6, none⟩)] 64)
    simp only [World.size_alloc] at this
    exact this
  have HB68 : Hid (Below w6.heap.size w6 w8) := by unfold Hid; rw [hw8]; exact bal (bal (Below.refl _ _) _) _
  have hz8 : w8.heap.size = w6.heap.size + 2 := by rw [hw8]; simp
  rw [← hw8]
  have HP8 := Lib.hid (HP6.out.keep HB68.out)
  have Hr8 := Lib.hid ((HB68.out.block _ (Nat.lt_trans hz1 hz6)).trans Hr6.out)
  have HB8 := Lib.hid (bot HB6.out HB68.out)
  have hz18 : w1.heap.size < w8.heap.size := by omega
  have hne1 : w6.heap.size ≠ w1.heap.size := by omega
  have hne2 : w6.heap.size + 1 ≠ w1.heap.size := by omega
  have Hidx : Hid (∀ W (a : Nat) h, Turn (fun j => j = w1.heap.size) w8 W → a ≤ 2 → Calls Tryz.prog 49 #[.slice (some ⟨w6.heap.size, a, none⟩) (3 - a) (3 - a), .string h] W fun e w' => e = .returned (.int .i64 (idxI (packOrder.drop a) h)) ∧ Below W.heap.size W w') := fun W a h hT ha => by
    have h1 : SlV rStr W (fun _ => True) packOrder (.slice (some ⟨w6.heap.size, 0, none⟩) 3 3) := SlV.of_block (hT.at hWB hne1) (elemsS (l := packOrder) (by decide)) trivial rfl (by decide) (by decide)
    have h2 := h1.cut a (by omega)
    rw [if_neg (by omega), Option.map_some, add_lit', show 0 + a * rStr.size = a from by show 0 + a * 1 = a; omega] at h2
    exact slIndex_any _ _ _ _ h W _ h2
  have Hptr : Hid (∀ W (j : Nat), Turn (fun j => j = w1.heap.size) w8 W → j < 3 → W.cell? ⟨w6.heap.size + 1, j, none⟩ = some (.pointer (some ⟨w1.heap.size, 4 + j, none⟩))) := fun W j hT hj => by
    rw [cell_of_row _ _ j _ _ _ (hT.at hLB hne2)]
    have : j = 0 ∨ j = 1 ∨ j = 2 := by omega
    rcases this with rfl | rfl | rfl <;> rfl
  have hsl2 : ∀ a : Nat, a ≤ 2 → ∀ W, (Instr.slice 61 (.slice (some ⟨w6.heap.size, 0, none⟩) 3 3) (some (.int .i64 (a : Int))) none none).run Tryz.prog W = .ok (.slice (some ⟨w6.heap.size, a, none⟩) (3 - a) (3 - a)) W := fun a ha W =>
    run_from_some (P := Tryz.prog) (t := 61) (e := 9) Tryz.underlying61 (by kernel_rfl) (fun _ => by kernel_rfl) w6.heap.size 3 a (by omega) W
  have Hsl2 := Lib.hid hsl2
  have Hz8 := Lib.hid hz8
  clear hw8 hWB hLB HB68 HP6 HB6 hsl2 hz8 hne1 hne2 Hr6
  go_wp2_with fail
  go_loopw [12, 80] (fun a i wr => ∃ (k aN : Nat) (v : Nat → Value) (l : Nat → List Dep) (S : Nat → Prop), k ≤ ln ∧ aN ≤ 2 ∧ a = .int .i64 aN ∧ i = .int .i64 k ∧ Hid (listsE packOrder rest (0, rm 3 fun _ => []) = listsE packOrder (rest.drop k) (aN, rm 3 l)) ∧ Hid (∀ j, j < 3 → (l j).length ≤ k) ∧ Hid (PartsIn 3 w8.heap.size wr v l S) ∧ Hid (PartsAt w1.heap.size [.string nm, .int .i64 x1, .int .i64 x2, .int .i64 x3] 26 3 wr v) ∧ Hid (Turn (fun j => j = w1.heap.size) w8 wr)) (fun _ i _ => ln - (intOf i).toNat)
  case atStart => exact ⟨0, 0, _, _, _, Nat.zero_le _, by decide, rfl, rfl, rfl, fun _ _ => Nat.le_refl _, PartsIn.nil 3 _ _, HP8, Turn.refl _ _⟩
  case round =>
    clear HP8
    obtain ⟨k, aN, v, l, S, hk, ha2, rfl, rfl, Hm, Hlen, HPi, HPa, HT⟩ := hrel
    have HBr : Hid (Below w1.heap.size w1 wr) := HB8.out.trans (HT.out.below (Nat.le_of_lt hz18) (fun q hq => by rw [hq]; exact Nat.le_refl _))
    have hzr : w8.heap.size ≤ wr.heap.size := HT.out.size
    have hk0 : (0 : Int) ≤ (k : Int) := by omega
    by_cases hlt : k < ln
    case neg =>
      obtain rfl : k = ln := by omega
      have hI : ¬ (k : Int) < (k : Int) := by omega
      have hm := Hm.out
      rw [List.drop_eq_nil_of_le (by have := Hln.out; omega), listsE] at hm
      obtain ⟨Kf, Kt⟩ := K2l'.out l hm
      have Kf' := Lib.hid Kf
      have Kt' := Lib.hid Kt
      have HO : Hid (PackO wr w8.heap.size ⟨nm, ⟨x1, x2, x3⟩, l 0, l 1, l 2⟩ (.agg #[.string nm, .int .i64 x1, .int .i64 x2, .int .i64 x3, v 0, v 1, v 2])) := ⟨v, l, S, rfl, Hnz.out, HPi.out, rfl, rfl, rfl⟩
      have HM := Lib.hid (packMay_any _ _ wr _ (tab_below Hv.out.tab (bot HB1.out HBr.out)) HO.out.packV)
      have p0 : wr.cell? ⟨w1.heap.size, 0, none⟩ = some (.string nm) := cell_of_row _ _ 0 _ _ _ HPa.out
      have p1 : wr.cell? ⟨w1.heap.size, 1, none⟩ = some (.int .i64 x1) := cell_of_row _ _ 1 _ _ _ HPa.out
      have p2 : wr.cell? ⟨w1.heap.size, 2, none⟩ = some (.int .i64 x2) := cell_of_row _ _ 2 _ _ _ HPa.out
      have p3 : wr.cell? ⟨w1.heap.size, 3, none⟩ = some (.int .i64 x3) := cell_of_row _ _ 3 _ _ _ HPa.out
      have p4 : wr.cell? ⟨w1.heap.size, 4, none⟩ = some (v 0) := cell_of_row _ _ 4 _ _ _ HPa.out
      have p5 : wr.cell? ⟨w1.heap.size, 5, none⟩ = some (v 1) := cell_of_row _ _ 5 _ _ _ HPa.out
      have p6 : wr.cell? ⟨w1.heap.size, 6, none⟩ = some (v 2) := cell_of_row _ _ 6 _ _ _ HPa.out
      obtain ⟨E0, e0, hv0, _, _⟩ := (HPi.out.1 0 (by decide)).slv.val
      obtain ⟨E1, e1, hv1, _, _⟩ := (HPi.out.1 1 (by decide)).slv.val
      obtain ⟨E2, e2, hv2, _, _⟩ := (HPi.out.1 2 (by decide)).slv.val
      have Hve : Hid (Value.agg (cellsP [.string nm, .int .i64 x1, .int .i64 x2, .int .i64 x3] 3 v) = .agg #[.string nm, .int .i64 x1, .int .i64 x2, .int .i64 x3, .slice E0 (l 0).length e0, .slice E1 (l 1).length e1, .slice E2 (l 2).length e2]) := by
        unfold Hid
        rw [show cellsP [.string nm, .int .i64 x1, .int .i64 x2, .int .i64 x3] 3 v = #[.string nm, .int .i64 x1, .int .i64 x2, .int .i64 x3, v 0, v 1, v 2] from rfl, hv0, hv1, hv2]
      rw [hv0] at p4 HM
      rw [hv1] at p5 HM
      rw [hv2] at p6 HM
      clear hv0 hv1 hv2
      generalize (l 0).length = n0 at *
      generalize (l 1).length = n1 at *
      generalize (l 2).length = n2 at *
      have hr9 := HT.out.at Hr8.out (by omega)
      have Hr9 := Lib.hid hr9
      clear hm Kf Kt K2l' K2e' Hm HLq HO hr9 Hptr Hidx Hsl2 hsl
      generalize packB ⟨nm, ⟨x1, x2, x3⟩, l 0, l 1, l 2⟩ = okB at *
      go_wp2_with fail
      refine HM.out.mono ?_
      rintro e w9 ⟨rfl, hb9⟩
      have HB9 := Lib.hid (bot (bot HB1.out HBr.out) hb9)
      have hr9 := (hb9.block _ (by omega)).trans Hr9.out
      obtain ⟨⟨a0, a1, a2, a3, a4, a5, a6⟩, f0, f1, f2, f3, f4, f5, f6⟩ := row7 hr9
      have Hr99 := Lib.hid hr9
      have hbP : w1.heap.size < wr.heap.size := by omega
      have p0 := below_cell hb9 p0 hbP
      have p1 := below_cell hb9 p1 hbP
      have p2 := below_cell hb9 p2 hbP
      have p3 := below_cell hb9 p3 hbP
      have p4 := below_cell hb9 p4 hbP
      have p5 := below_cell hb9 p5 hbP
      have p6 := below_cell hb9 p6 hbP
      have HPi9 := Lib.hid (HPi.out.keep hb9)
      clear hb9 hr9 Hr9 HM HPa HPi HT HBr
      cases okB with
      | false =>
        have hq := Kf'.out rfl
        subst hq
        clear Kf' Kt'
        go_wp2_with fail
        refine ret_cells rfl rfl rfl rfl (heap_set7 Hr99.out _ _ _ _ _ _ _) Tryz.underlying26 rfl (by kernel_rfl) ⟨_, rfl, PackO.zero _ _, below_set7 HB9.out (Nat.le_refl _) _ _ _ _ _ _ _⟩
      | true =>
        have hq := Kt'.out rfl
        subst hq
        clear Kf' Kt'
        go_wp2_with fail
        refine ret_cells rfl rfl rfl rfl (heap_set7 Hr99.out _ _ _ _ _ _ _) Tryz.underlying26 rfl (by kernel_rfl) ⟨_, rfl, ?_, below_set7 HB9.out (Nat.le_refl _) _ _ _ _ _ _ _⟩
        exact PackO.lower ⟨v, l, S, Hve.out.symm, Hnz.out, HPi9.out.set7 (by omega) _ _ _ _ _ _ _, rfl, rfl, rfl⟩ (by omega)
    have hkI : (k : Int) < (ln : Int) := by omega
    have hkx : k < rest.length := by have := Hln.out; omega
    have HLw := Lib.hid (HLq.out.below HBr.out (fun b hb => hb))
    obtain ⟨bx, ox, rfl, _, hbx⟩ := HLw.out.at (by omega)
    obtain ⟨Aw, cw, cx, hsw⟩ := HLw.out.row (i := k) (List.getElem?_eq_getElem hkx)
    obtain ⟨hne, hwl, hwj⟩ := HL2.out rest[k] (by simp [List.getElem_mem])
    have Hat := Lib.hid (fun st => lists_at (order := packOrder) (st := st) (List.getElem?_eq_getElem hkx))
    generalize rest[k] = ws at *
    cases ws with
    | nil => exact absurd rfl hne
    | cons h tl =>
    obtain ⟨bw, ow, rfl, _, hbw⟩ := hsw.at (by simp)
    obtain ⟨ch, hhz⟩ := hsw.str (i := 0) (x := h) rfl
    rw [Nat.add_zero] at ch
    have Hsw := Lib.hid hsw
    have hs2 := Hsl2.out aN ha2
    have HX : Hid (∀ x : Int, idxI (packOrder.drop aN) h = x → ∀ d os, Calls Tryz.prog 49 #[.slice (some ⟨w6.heap.size, aN, none⟩) (3 - aN) (3 - aN), .string h] (grow (redrawn wr d) os) fun e w'' => e = .returned (.int .i64 x) ∧ ∃ p : Regrown, w'' = grow (redrawn wr p.d) p.os) := fun x hx => qcall (w := wr) (fun W hW => by
      have := Hidx.out W aN h (HT.out.trans (Turn.of_below hW)) ha2
      rw [hx] at this
      exact this)
    have Hne := Lib.hid hne
    have Hwj := Lib.hid hwj
    have Hwl := Lib.hid hwl
    have ha0 : (0 : Int) ≤ (aN : Int) := by omega
    clear hne hwj hwl hsw hbx hbw hhz
    have htl : 0 < tl.length + 1 := by omega
    cases hI : idxGo (packOrder.drop aN) h with
    | none =>
      have hq := K2e'.out 22 (by rw [Hm.out, Hat.out]; exact lists_none hI)
      subst hq
      have HXq := Lib.hid (HX.out _ (idxI_none hI))
      clear hI HX K2e' K2l' Hm Hat
      have r_cx := cell_regrown cx
      have r_ch := cell_regrown ch
      go_wp2_with fail
      refine wp_region_qb (by kernel_rfl) (by kernel_rfl) ?_
      repeat (go_big_quiet_step (first | (with_reducible exact HXq.out _ _)))
      refine wpQuiet_nil ?_
      intro wa Ba
      have hra := (Ba.block _ (by omega)).trans (HT.out.at Hr8.out (by omega))
      obtain ⟨⟨a0, a1, a2, a3, a4, a5, a6⟩, f0, f1, f2, f3, f4, f5, f6⟩ := row7 hra
      have Hra := Lib.hid hra
      have HBa := Lib.hid (bot (bot HB1.out HBr.out) Ba)
      clear r_cx r_ch cx ch hra Ba
      go_wp2_with fail
      refine ret_cells rfl rfl rfl rfl (heap_set7 Hra.out _ _ _ _ _ _ _) Tryz.underlying26 rfl (by kernel_rfl) ⟨_, rfl, PackO.zero _ _, below_set7 HBa.out (Nat.le_refl _) _ _ _ _ _ _ _⟩
    | some q =>
    have hq3 : aN + q < 3 := by
      have h1 := idxGo_lt hI
      rw [List.length_drop] at h1
      have h3 : packOrder.length = 3 := rfl
      omega
    have HXq := Lib.hid (HX.out _ (idxI_some hI))
    have Hok := Lib.hid (fun d (hd : depE (lastN (l (aN + q))) (h :: tl) = .ok d) => (Hm.out.trans (Hat.out _)).trans (lists_ok (n := 3) (l := l) (ws := rest.drop (k + 1)) (w := h :: tl) hI hq3 hd))
    have Herr := Lib.hid (fun e (hd : depE (lastN (l (aN + q))) (h :: tl) = .error e) => (Hm.out.trans (Hat.out _)).trans (lists_err (n := 3) (l := l) (ws := rest.drop (k + 1)) (w := h :: tl) hI hq3 hd))
    obtain ⟨j, hj⟩ : ∃ j, j = aN + q := ⟨_, rfl⟩
    rw [← hj] at hq3 Hok Herr
    have hwj : IntKind.i64.wrap ((aN : Int) + (q : Int)) = (j : Int) := by rw [IntWalk.i64_in _ ⟨by omega, by omega⟩]; omega
    have hqn : ¬ (q : Int) < 0 := by omega
    have hj0 : (0 : Int) ≤ (j : Int) := by omega
    have hjI : (j : Int) < 3 := by omega
    clear hI HX Hm Hat hj
    have r_cx := cell_regrown cx
    have r_ch := cell_regrown ch
    go_wp2_with fail
    refine wp_region_qb (by kernel_rfl) (by kernel_rfl) ?_
    repeat (go_big_quiet_step (first | (with_reducible exact HXq.out _ _)))
    refine wpQuiet_nil ?_
    intro wa Ba
    have HPia := Lib.hid (HPi.out.keep Ba)
    have HPaa := Lib.hid (HPa.out.keep Ba)
    have HTa := Lib.hid (HT.out.trans (Turn.of_below Ba))
    have HBa := Lib.hid (bot HBr.out Ba)
    have Hswa := Lib.hid (Hsw.out.belowSize Ba)
    have hva := (HPia.out.1 j hq3).slv
    obtain ⟨Ad, cd, hvj, _, _⟩ := hva.val
    rw [hvj] at hva
    have Hva := Lib.hid hva
    have hp4 := HPaa.out.cell hq3
    have hp4 : wa.cell? ⟨w1.heap.size, 4 + j, none⟩ = some (v j) := hp4
    rw [hvj] at hp4
    have hpl := Hptr.out wa j HTa.out hq3
    have hlj := Hlen.out j hq3
    have hza : w8.heap.size ≤ wa.heap.size := HTa.out.size
    have Hwl' : Hid ((h :: tl).length ≤ 1000000) := by have := Hwl.out; unfold Hid; omega
    have Hwj' : Hid ((joinS (h :: tl)).size ≤ 1000000) := by have := Hwj.out; unfold Hid; omega
    have HD := Lib.hid (dep_any (h :: tl) (l j) (some ⟨bw, ow, none⟩) (tl.length + 1) cw Ad (l j).length cd wa _ _ (Hv.out.below (bot HB1.out HBa.out)) Hswa.out Hva.out Hwj'.out Hwl'.out)
    obtain ⟨nd, hnd⟩ : ∃ nd, nd = (l j).length := ⟨_, rfl⟩
    rw [← hnd] at hvj hp4 HD hlj
    have Hnd := Lib.hid hnd
    have Hvj := Lib.hid hvj
    clear hvj hva Hva Hswa Ba hnd HPi HPa HT HBr HXq Hsw hzr r_cx r_ch cx ch
    go_wp2_with fail
    refine HD.out.mono ?_
    rintro e wb ⟨hbd, (⟨e', hd, rfl⟩ | ⟨d, vr, hd, rfl, hsd⟩)⟩
    · have hq := K2e'.out e' (Herr.out e' hd)
      have hbe : (e' != 0) = true := by rw [bne_iff_ne]; exact depE_err hd
      subst hq
      go_upto_region 24 with (fail)
      obtain ⟨wc, hwc⟩ : ∃ wc, wc = wb.alloc (.cells #[.string ⟨#[]⟩, .slice none 0 0] 38) := ⟨_, rfl⟩
      have hbc : Below wa.heap.size wa wc := by rw [hwc]; exact bal hbd _
      rw [← hwc]
      have hrc := (hbc.block _ (by omega)).trans (HTa.out.at Hr8.out (by omega))
      obtain ⟨⟨a0, a1, a2, a3, a4, a5, a6⟩, f0, f1, f2, f3, f4, f5, f6⟩ := row7 hrc
      have Hrc := Lib.hid hrc
      have HBc := Lib.hid (bot (bot HB1.out HBa.out) hbc)
      clear hwc hbd hbc hrc hd hp4 hpl K2e' K2l' Hok Herr
      go_wp2_with fail
      refine ret_cells rfl rfl rfl rfl (heap_set7 Hrc.out _ _ _ _ _ _ _) Tryz.underlying26 rfl (by kernel_rfl) ⟨_, rfl, PackO.zero _ _, below_set7 HBc.out (Nat.le_refl _) _ _ _ _ _ _ _⟩
    · obtain ⟨Ar, cr, rfl, _, _⟩ := hsd.val
      obtain ⟨nr, hnr⟩ : ∃ nr, nr = d.range.length := ⟨_, rfl⟩
      rw [← hnr] at hsd ⊢
      have hnm := nameB_size (depE_name hd)
      have Hnx := Lib.hid (Hok.out d hd)
      clear hnr hd Herr Hok
      obtain ⟨dn, dr⟩ := d
      simp only at hsd hnm ⊢
      go_upto_region 26 with (fail)
      obtain ⟨wc, hwc⟩ : ∃ wc, wc = wb.alloc (.cells #[.string dn, .slice Ar nr cr] 38) := ⟨_, rfl⟩
      have hbc : Below wb.heap.size wb wc := by rw [hwc]; exact bal (Below.refl _ _) _
      have hcc : wc.heap[wb.heap.size]? = some (.cells #[.string dn, .slice Ar nr cr] 38 (0, 0)) := by rw [hwc]; exact heap_alloc_new wb _
      rw [← hwc]
      obtain ⟨⟨g0, g1⟩, _⟩ := row2 hcc
      have HPm := Lib.hid ((HPia.out.more hbd hza).keep hbc)
      have hbac : Below wa.heap.size wa wc := bot hbd hbc
      have HPac := Lib.hid (HPaa.out.keep hbac)
      have HTc := Lib.hid (HTa.out.trans (Turn.of_below hbac))
      have hp4 := below_cell hbac hp4 (Nat.lt_of_lt_of_le hz18 hza)
      have hpl := below_cell hbac hpl (cell_lt hpl)
      have hfz := HPac.out.free (4 + j)
      have Hh : Hid (rDep.holds wc (fun b => S b ∨ Fresh wa.heap.size wb b) ⟨dn, dr⟩ [.string dn, .slice Ar nr cr]) := ⟨_, rfl, Nat.le_trans hnm (by decide), (hsd.more (S' := fun b => S b ∨ Fresh wa.heap.size wb b) (fun b hb _ => .inr hb)).belowSize hbc⟩
      have Hown : Hid (Own rDep wc w8.heap.size 38 (.slice Ad nd cd) (l j) (fun b => S b ∨ Fresh wa.heap.size wb b)) := by have := HPm.out.1 j hq3; rw [Hvj.out] at this; exact this
      have hzc : w8.heap.size ≤ wc.heap.size := HTc.out.size
      have hne : w1.heap.size ≠ w6.heap.size + 1 := by have := Hz8.out; omega
      clear hwc hbd hbc hcc hbac HPia HPaa HTa hsd hza HD
      have hrow : some w1.heap.size ≠ (Value.slice Ad nd cd).ownBlock := fun e => by have := (Hown.out.lt _ e.symm).1; omega
      have Hrow := Lib.hid hrow
      have Hrow2 : Hid (some (w6.heap.size + 1) ≠ (Value.slice Ad nd cd).ownBlock) := fun e => by have := (Hown.out.lt _ e.symm).1; have := Hz8.out; omega
      have HP2 : Hid (w6.heap.size + 1 < wc.heap.size) := by have := Hz8.out; unfold Hid; omega
      have HP1 : Hid (w1.heap.size < wc.heap.size) := by unfold Hid; omega
      have e4 := fun o => (cell_same (Below.heap_alloc wc o _ (cell_lt hp4)) _ none).trans hp4
      have el := fun o => (cell_same (Below.heap_alloc wc o _ (cell_lt hpl)) _ none).trans hpl
      have eg0 := fun o => (cell_same (Below.heap_alloc wc o _ (cell_lt g0)) _ none).trans g0
      have eg1 := fun o => (cell_same (Below.heap_alloc wc o _ (cell_lt g1)) _ none).trans g1
      clear hrow
      go_wp2_with fail
      go_region_law
       (first
        | (refine step_push (by rfl) _ _ _ (by rfl) elt_dep Tryz.underlying24 (by rfl) (Hown.out.drew.alloc _) ⟨wc.heap.size, 0, none⟩ 1 [.string dn, .slice Ar nr cr] ⟨dn, dr⟩ (by rfl) (Rp.alloc (Rp.drew Hh.out) _)
              (news_of wc.drew #[.string dn, .slice Ar nr cr] _) (by rw [← Hnd.out]; unfold maxLen; omega) (by rw [← Hnd.out]; omega) (by simp; omega) (wc.heap.size + 1) (by simp) ?_; intro g6 cap6 w9 hown6 hgrow hat hg6; have hc6 := hgrow.cell ((cell_same (Below.heap_alloc wc.drew _ _ HP1.out) _ _).trans hp4) Hrow.out; have hl6 := hgrow.cell ((cell_same (Below.heap_alloc wc.drew _ _ HP2.out) _ _).trans hpl) Hrow2.out; have hf6 := (frozen_same ((hgrow.block _ (by simp; have := HP1.out; omega) Hrow.out).trans (Below.heap_alloc wc.drew _ _ HP1.out)) (4 + j) none).trans hfz))
      all_goals
        have hg7 := hgrow
        rw [← Hvj.out] at hg7 hat
        obtain ⟨s1, s2, s3⟩ := parts_step (hd := [.string nm, .int .i64 x1, .int .i64 x2, .int .i64 x3]) hz18 HPm.out HPac.out HTc.out hq3 hown6 hg7 hat
        have S1 := Lib.hid s1
        have S2 := Lib.hid s2
        have S3 := Lib.hid s3
        clear s1 s2 s3 hg7 hgrow hown6 hat hc6 hl6 hf6 hp4 hpl hfz HPm HPac HTc Hown Hh g0 g1 e4 el eg0 eg1
        go_wp2_with fail
        go_roundw
        case rel =>
          refine ⟨k + 1, j, _, _, _, by omega, by omega, rfl, by go_num, Hnx, ?_, S1, S2, S3⟩
          intro j' hj'
          have := Hlen.out j' hj'
          show (if j' = j then l j ++ [_] else l j').length ≤ k + 1
          split
          · rename_i e
            rw [e] at this
            rw [List.length_append, List.length_singleton]; omega
          · omega
        case measure => simp [intOf]; omega
end Go.Proofs.YtldjldkejjeamaaGreatDoor
