/-
  halyardref03.Parse: a range's text read as the document does, walked.
-/
import Derived.Test.YtghihopmiagcpaaGreatDoorRefW
import Derived.Test.YtghihopmiagcpaaGreatDoorRefA
import Derived.Test.YtghihopmiagcpaaGreatDoorFoldR
set_option autoImplicit false
set_option relaxedAutoImplicit false
set_option linter.unusedVariables false
set_option linter.unusedSimpArgs false
namespace Go.Proofs.YtghihopmiagcpaaGreatDoor
open Go.Rows Go.RowKit Go.Shelf Go.Sort

theorem spn_in0 {o : Rk} (h0 : 0 ≤ o.1) (h1 : o.2 ≤ lastR) : rks ((runL o).map spnAt) = runL o := rks_spn (runL_in0 h0 h1)
theorem fit_run {o : Rk} (h0 : 0 ≤ o.1) (h1 : o.2 ≤ lastR) : fitR (runL o) = ((runL o).map spnAt, 0) := by
  unfold fitR
  rw [if_pos (Nat.le_trans (runL_len o) (by decide))]
/-- the words alone tell what an alternative's parts tell -/
theorem stepW_words : ∀ (l : List (List UInt8)) (st : Option (Rk × Bool)), (l.map mkB).foldl stepW st = ((l.filter fun p => !p.isEmpty).map mkB).foldl stepW st := by
  intro l
  induction l with
  | nil => intro st; rfl
  | cons p l ih =>
    intro st
    rw [List.map_cons, List.foldl_cons, List.filter_cons]
    cases p with
    | nil => rw [stepW_empty]; exact ih st
    | cons c p => exact ih _
theorem innL_words (cs : List UInt8) : innL cs = ((wordsL cs).map mkB).foldl stepW (some ((0, lastR), false)) := by
  unfold innL innF wordsL
  exact stepW_words _ _
theorem words_ne {cs w : List UInt8} (h : w ∈ wordsL cs) : mkB w ≠ ⟨#[]⟩ := by
  unfold wordsL at h
  have := (List.mem_filter.1 h).2
  intro e
  have e' : w = [] := congrArg (·.data.toList) e
  subst e'
  exact absurd this (by decide)
theorem stepW_bad {o : Rk} {b : Bool} {s : ByteArray} (hs : s ≠ ⟨#[]⟩) (h : wordF s = none) : stepW (some (o, b)) s = none := by
  unfold stepW; simp only [if_neg hs, h]
/-- an alternative: what its words leave -/
theorem stepA_alt {all : List Rk} {p : List UInt8} : stepA (some all) (mkB p) = match ((wordsL p).map mkB).foldl stepW (some ((0, lastR), false)) with
    | none => none
    | some (o, b) => if b = false then none else some (all ++ runL o) := by
  rw [← innL_words]
  have e : stepA (some all) (mkB p) = match innL p with | none => none | some (o, b) => if b = false then none else if o.1 ≤ o.2 then some (all ++ [o]) else some all := by
    rw [← mkB_data p, ← innL_spl]; rfl
  rw [e]
  cases innL p with
  | none => rfl
  | some q =>
    obtain ⟨o, b⟩ := q
    simp only
    by_cases hb : b = false
    · rw [if_pos hb, if_pos hb]
    · rw [if_neg hb, if_neg hb]
      by_cases hle : o.1 ≤ o.2
      · rw [if_pos hle, runL_yes hle]
      · rw [if_neg hle, runL_no hle, List.append_nil]

set_option maxHeartbeats 4000000 in
set_option maxRecDepth 100000 in
theorem refParse_any (t : ByteArray) (w : World) (hs : t.size ≤ 4611686018427387904) :
    Calls Tryz.prog 18 #[.string t] w fun e w' => ∃ v, e = .returned (.tuple #[v, .int .i64 (parseQ t).2]) ∧ SlV rSpn w' (fun b => w.heap.size ≤ b) (parseQ t).1 v ∧ Below w.heap.size w w' := by
  by_cases hbig : 4096 < t.size
  · have Hq : Hid (parseQ t = ([], 21)) := by unfold Hid parseQ parseS; rw [if_pos hbig]
    have hbigI : (4096 : Int) < (t.size : Int) := by omega
    go_enter Tryz.func18, Tryz.ntmps18
    go_wp2_with fail
    go_ret2
    rw [Hq.out]
    exact ⟨_, rfl, SlV.nil_ _ _ _, Below.refl _ _⟩
  have hbigI : ¬ (4096 : Int) < (t.size : Int) := by omega
  obtain ⟨L, hL⟩ : ∃ L, L = altL [] t.data.toList := ⟨_, rfl⟩
  have hps : parseS t = (L.map mkB).foldl stepA (some []) := by unfold parseS; rw [if_neg hbig, spl_bars, hL]; rfl
  have HqN : Hid ((L.map mkB).foldl stepA (some []) = none → parseQ t = ([], 21)) := fun h => by unfold parseQ; rw [hps, h]
  have HqS : Hid (∀ all, (L.map mkB).foldl stepA (some []) = some all → parseQ t = fitR (foldedF 106 all []) ∧ In0 all) := fun all h => by
    have hin := (altsF_in0 (L.map mkB) h).1
    refine ⟨?_, hin⟩
    unfold parseQ; rw [hps, h, fold_all hin]
  have Halt : Hid (∀ W, Calls Tryz.prog 45 #[.string t] W fun e w' => ∃ v, e = .returned v ∧ SlV rStr w' (fun b => W.heap.size ≤ b) (L.map mkB) v ∧ Below W.heap.size W w') := fun W => by
    rw [hL]; exact alternatives_any t W (by omega)
  have hsp := spl_bars t
  rw [← hL] at hsp
  have HLl : Hid (L.length ≤ 4097) := by
    have h1 := splitB_len barsB t.size t
    have h2 := congrArg List.length hsp
    rw [List.length_map] at h2
    unfold spl at h2
    unfold Hid; omega
  have HLs : Hid (∀ x ∈ L.map mkB, x.size ≤ 4096) := fun x hx => by rw [← hsp] at hx; have := splitB_le barsB _ _ _ hx; omega
  have HBd : Hid (∀ k all, ((L.map mkB).take k).foldl stepA (some []) = some all → In0 all ∧ all.length ≤ 4097) := fun k all h => by
    obtain ⟨h1, h2⟩ := altsF_in0 _ h
    refine ⟨h1, Nat.le_trans h2 ?_⟩
    rw [List.length_take, List.length_map]
    have := HLl.out; omega
  have HML : Hid ((L.map mkB).length = L.length) := List.length_map _
  have Hwords : Hid (∀ (k : Nat) (h : k < L.length) W, Calls Tryz.prog 46 #[.string (mkB L[k])] W fun e w' => ∃ v, e = .returned v ∧ SlV rStr w' (fun b => W.heap.size ≤ b) ((wordsL L[k]).map mkB) v ∧ Below W.heap.size W w') := fun k h W => by
    have := HLs.out (mkB L[k]) (List.mem_map.2 ⟨_, List.getElem_mem h, rfl⟩)
    exact words_any (mkB L[k]) W (by omega)
  clear hsp hps hbig
  go_enter Tryz.func18, Tryz.ntmps18
  go_wp2_with fail
  refine (Halt.out _).mono ?_
  rintro e w1 ⟨v1, rfl, hv1, hb1⟩
  obtain ⟨A1, c1, rfl, _, _⟩ := hv1.val
  rw [HML.out] at hv1 ⊢
  have HV1 := Lib.hid (hv1.more (S' := fun b => b < w1.heap.size) fun b _ h => h)
  have HB1 := Lib.hid hb1
  clear hv1 hb1 Halt
  obtain ⟨ln, hln⟩ : ∃ ln, ln = L.length := ⟨_, rfl⟩
  rw [← hln] at HV1 ⊢
  have Hln := Lib.hid hln
  have hl5 : ln ≤ 4097 := by have := HLl.out; omega
  clear hln
  go_wp2_with fail
  go_loopw [4, 6] (fun v i wr => ∃ (k : Nat) (all : List Rk) (S : Nat → Prop), k ≤ ln ∧ i = .int .i64 k ∧ Hid (((L.map mkB).take k).foldl stepA (some []) = some all) ∧ Hid (Own rSpn wr w1.heap.size 47 v (all.map spnAt) S) ∧ Hid (Below w1.heap.size w1 wr)) (fun _ i _ => ln - (intOf i).toNat)
  case atStart => exact ⟨0, [], fun _ => False, Nat.zero_le _, rfl, rfl, Own.nil_ _ _ _ _ (fun b hb => hb.elim), Below.refl _ _⟩
  case round =>
    obtain ⟨k, all, S, hk, rfl, Hst, Hown, HB⟩ := hrel
    have HBw : Hid (Below w.heap.size w wr) := bot HB1.out HB.out
    obtain ⟨hin, hal⟩ := HBd.out k all Hst.out
    have Hin := Lib.hid hin
    clear hin
    by_cases hlt : k < ln
    case neg =>
      obtain rfl : k = ln := by omega
      have hlt' : ¬ (k : Int) < (k : Int) := by omega
      have hst := Hst.out
      rw [Hln.out, ← HML.out, List.take_length] at hst
      obtain ⟨hq, _⟩ := HqS.out all hst
      have hs := Hown.out.slv
      obtain ⟨A3, c3, rfl, _, _⟩ := hs.val
      obtain ⟨z, hz⟩ : ∃ z, z = (all.map spnAt).length := ⟨_, rfl⟩
      have hrk : rks (all.map spnAt) = all := rks_spn Hin.out
      rw [← hz] at hs ⊢
      have hfo := folded_any 106 (by decide) A3 none z 0 c3 0 (all.map spnAt) [] wr _ (fun _ => True) hs (SlV.nil_ _ _ _) (by rw [hrk]; exact Hin.out) (fun x hx => by cases hx) (by rw [List.length_map]; omega) (by decide)
      rw [hrk] at hfo
      rw [show rks [] = [] from rfl, ← hq] at hfo
      have Hfo := Lib.hid hfo
      clear hfo hq hst hs hrk Hst Hown HqN HqS HBd Hwords hz
      go_wp2_with fail
      refine Hfo.out.mono ?_
      rintro e w3 ⟨v3, rfl, hv3, hb3⟩
      go_wp2_with fail
      go_ret2
      exact ⟨v3, rfl, hv3.more fun b hb _ => Nat.le_trans HBw.out.size hb, bot HBw.out hb3⟩
    have hkI : (k : Int) < (ln : Int) := by omega
    have hk0 : (0 : Int) ≤ (k : Int) := by omega
    have hkx : k < (L.map mkB).length := by have := HML.out; have := Hln.out; omega
    have hkL : k < L.length := by have := Hln.out; omega
    have hlw := HV1.out.below HB.out (fun b hb => hb)
    have Hnx : Hid (∀ r, stepA (some all) (mkB L[k]) = r → ((L.map mkB).take (k + 1)).foldl stepA (some []) = r) := fun r h => by
      rw [fold_snoc hkx, Hst.out, List.getElem_map, h]
    have Hnone : Hid (stepA (some all) (mkB L[k]) = none → parseQ t = ([], 21)) := fun h => HqN.out (fold_dead stepA_none (k := k + 1) (Hnx.out _ h))
    have hsa := stepA_alt (all := all) (p := L[k])
    obtain ⟨b, o, cs, rfl, hSb, hbl, hsp, hcell⟩ := hlw.elem (List.getElem?_eq_getElem hkx)
    obtain ⟨rfl, _⟩ := hsp
    have c0 := hcell 0 _ rfl
    simp only [rStr, Nat.add_zero, Nat.mul_one] at c0
    clear hcell
    simp only [List.getElem_map] at c0
    have Hw := Lib.hid (fun W => Hwords.out k hkL W)
    have Hne : Hid (∀ x ∈ (wordsL L[k]).map mkB, x ≠ ⟨#[]⟩) := fun x hx => by
      obtain ⟨p, hp, rfl⟩ := List.mem_map.1 hx
      exact words_ne hp
    have Hsz : Hid (∀ x ∈ (wordsL L[k]).map mkB, x.size ≤ 4096) := fun x hx => by
      obtain ⟨p, hp, rfl⟩ := List.mem_map.1 hx
      have h1 := HLs.out (mkB L[k]) (List.mem_map.2 ⟨_, List.getElem_mem hkL, rfl⟩)
      have h2 : mkB p ∈ spl (mkB L[k]) blankB := by
        rw [spl_blank]
        exact List.mem_map.2 ⟨p, (List.mem_filter.1 hp).1, rfl⟩
      have h3 := splitB_le blankB _ _ _ h2
      omega
    have HMl : Hid (((wordsL L[k]).map mkB).length ≤ 4097) := by
      have h1 := HLs.out (mkB L[k]) (List.mem_map.2 ⟨_, List.getElem_mem hkL, rfl⟩)
      have h2 := splitB_len blankB (mkB L[k]).size (mkB L[k])
      have h3 := congrArg List.length (spl_blank (mkB L[k]))
      rw [List.length_map, mkB_data] at h3
      unfold spl at h3
      have h4 : (wordsL L[k]).length ≤ (wrdL [] L[k]).length := List.length_filter_le _ _
      unfold Hid
      rw [List.length_map]
      omega
    generalize mkB L[k] = x at *
    generalize (wordsL L[k]).map mkB = M at *
    have Hsa := Lib.hid hsa
    clear hsa hlw HqN HqS HBd Hwords
    go_wp2_with fail
    refine (Hw.out _).mono ?_
    rintro e w2 ⟨v2, rfl, hv2, hb2⟩
    obtain ⟨A2, c2, rfl, _, _⟩ := hv2.val
    have HV2 := Lib.hid (hv2.more (S' := fun b => b < w2.heap.size) fun b _ h => h)
    have HB2 := Lib.hid (HB.out.trans (hb2.mono HB.out.size))
    have Hown2 := Lib.hid (Hown.out.keep hb2)
    clear hv2 hb2 Hown HB c0 Hw HBw
    obtain ⟨mn, hmn⟩ : ∃ mn, mn = M.length := ⟨_, rfl⟩
    rw [← hmn] at HV2 ⊢
    have Hmn := Lib.hid hmn
    have hmn9 : mn ≤ 4097 := by rw [hmn]; exact HMl.out
    clear hmn HMl
    go_wp2_with fail
    refine (refAll_any _).mono ?_
    rintro e w3 ⟨v3, rfl, hv3, hb3⟩
    have hall : allS = (runL (0, lastR)).map spnAt := by rw [runL_yes (by decide)]; rfl
    rw [hall] at hv3
    have Hv3 := Lib.hid hv3
    have HV3 := Lib.hid (HV2.out.belowSize hb3)
    have HB3 := Lib.hid (HB2.out.trans (hb3.mono HB2.out.size))
    have Hown3 := Lib.hid (Hown2.out.keep hb3)
    have Hle3 : Hid (w2.heap.size ≤ w3.heap.size) := hb3.size
    have Hol : Hid (∀ g, u4.ownBlock = some g → g < w2.heap.size) := fun g hg => (Hown2.out.lt g hg).2
    clear hv3 hb3 HB2 Hown2 HV2 hall
    go_wp2_with fail
    go_loopw [8, 9] (fun v i wx => ∃ (j : Nat) (ro : Rk), j ≤ mn ∧ i = .int .i64 j ∧ Hid ((M.take j).foldl stepW (some ((0, lastR), false)) = some (ro, decide (0 < j))) ∧ Hid (SlV rSpn wx (fun b => w2.heap.size ≤ b) ((runL ro).map spnAt) v) ∧ Hid (Below w3.heap.size w3 wx)) (fun _ i _ => mn - (intOf i).toNat)
    case atStart => exact ⟨0, (0, lastR), Nat.zero_le _, rfl, rfl, Hv3, Below.refl _ _⟩
    case round =>
      clear Hv3
      obtain ⟨j, ro, hj, rfl, Hst2, Hsv, HBx⟩ := hrel
      obtain ⟨Ao, co, rfl, _, _⟩ := Hsv.out.val
      obtain ⟨z, hz⟩ : ∃ z, z = ((runL ro).map spnAt).length := ⟨_, rfl⟩
      rw [← hz] at Hsv ⊢
      have hz1 : z ≤ 1 := by rw [hz, List.length_map]; exact runL_len ro
      have hbo := innF_bounds (M.take j) Hst2.out
      have HB4 : Hid (Below w1.heap.size w1 wr) := HB3.out.trans (HBx.out.mono (by have := HB3.out.size; omega))
      have HBw : Hid (Below w.heap.size w wr) := bot HB1.out HB4.out
      have HVx := Lib.hid (HV3.out.belowSize HBx.out)
      have Hownx := Lib.hid (Hown3.out.keep HBx.out)
      clear hz
      by_cases hjl : j < mn
      · have hjI : (j : Int) < (mn : Int) := by omega
        have hj0 : (0 : Int) ≤ (j : Int) := by omega
        have hjx : j < M.length := by have := Hmn.out; omega
        have hlw := HVx.out
        obtain ⟨b, o, cs, rfl, hSb, hbl, hsp, hcell⟩ := hlw.elem (List.getElem?_eq_getElem hjx)
        obtain ⟨rfl, _⟩ := hsp
        have c0 := hcell 0 _ rfl
        simp only [rStr, Nat.add_zero, Nat.mul_one] at c0
        clear hcell
        have hmem := List.getElem_mem hjx
        have Hwd := Lib.hid (refWord_any M[j] wr (by have := Hsz.out _ hmem; omega))
        have Hnx2 : Hid (∀ r, stepW (some (ro, decide (0 < j))) M[j] = r → (M.take (j + 1)).foldl stepW (some ((0, lastR), false)) = r) := fun r h => by
          rw [fold_snoc hjx, Hst2.out, h]
        have hnon := Hne.out _ hmem
        have Hnon := Lib.hid hnon
        clear hlw hmem hnon
        generalize M[j] = y at *
        cases hw : wordF y with
        | none =>
          have hdead : M.foldl stepW (some ((0, lastR), false)) = none := fold_dead stepW_none (k := j + 1) (Hnx2.out _ (stepW_bad Hnon.out hw))
          have Hno : Hid (parseQ t = ([], 21)) := Hnone.out (by rw [Hsa.out, hdead])
          rw [hw] at Hwd
          clear hdead hw
          go_wp2_with fail
          refine Hwd.out.mono ?_
          rintro e w5 ⟨v5, rfl, hv5, hb5⟩
          simp only [Option.isSome_none]
          go_wp2_with fail
          go_ret2
          rw [Hno.out]
          exact ⟨_, rfl, SlV.nil_ _ _ _, bot HBw.out hb5⟩
        | some xr =>
          have hxb := wordF_bounds hw
          have Hst3 : Hid ((M.take (j + 1)).foldl stepW (some ((0, lastR), false)) = some ((max ro.1 xr.1, min ro.2 xr.2), decide (0 < j + 1))) := by
            unfold Hid
            rw [Hnx2.out _ (stepW_word hw), decide_eq_true (Nat.succ_pos j)]
          rw [hw] at Hwd
          have Hxb := Lib.hid hxb
          clear hw hxb Hnx2
          go_wp2_with fail
          refine Hwd.out.mono ?_
          rintro e w5 ⟨v5, rfl, hv5, hb5⟩
          obtain ⟨Ax, cx, rfl, _, _⟩ := hv5.val
          have hwl : (wsp (some xr)).length ≤ 1 := by show ((runL xr).map spnAt).length ≤ 1; rw [List.length_map]; exact runL_len xr
          obtain ⟨zx, hzx⟩ : ∃ zx, zx = (wsp (some xr)).length := ⟨_, rfl⟩
          rw [← hzx] at hv5 ⊢
          simp only [Option.isSome_some]
          have HB5 := Lib.hid (HBx.out.trans (hb5.mono HBx.out.size))
          have Hsv5 := Lib.hid (Hsv.out.belowSize hb5)
          have hfo := folded_any 109 (by decide) Ao Ax z zx co cx ((runL ro).map spnAt) (wsp (some xr)) w5 _ _ Hsv5.out hv5 (by rw [spn_in0 hbo.1.1 hbo.2.2]; exact runL_in0 hbo.1.1 hbo.2.2) (by show In0 (rks ((runL xr).map spnAt)); rw [spn_in0 Hxb.out.1.1 Hxb.out.2.2]; exact runL_in0 Hxb.out.1.1 Hxb.out.2.2) (by rw [List.length_map]; have := runL_len ro; omega) (by omega)
          rw [show rks (wsp (some xr)) = runL xr from spn_in0 Hxb.out.1.1 Hxb.out.2.2, spn_in0 hbo.1.1 hbo.2.2, fold_runs hbo.1.1 hbo.2.2 Hxb.out.1.1 Hxb.out.2.2, fit_run (o := (max ro.1 xr.1, min ro.2 xr.2)) (by simp only; omega) (by simp only; omega)] at hfo
          have Hfo := Lib.hid hfo
          have Hz5 : Hid (w2.heap.size ≤ w5.heap.size) := by have := HB5.out.size; have := Hle3.out; unfold Hid; omega
          clear hfo hv5 hb5 hzx hwl Hwd
          go_wp2_with fail
          refine Hfo.out.mono ?_
          rintro e w6 ⟨v6, rfl, hv6, hb6⟩
          have Hv6 : Hid (SlV rSpn w6 (fun b => w2.heap.size ≤ b) ((runL (max ro.1 xr.1, min ro.2 xr.2)).map spnAt) v6) := hv6.more fun b hb _ => Nat.le_trans Hz5.out hb
          have HB6 := Lib.hid (HB5.out.trans (hb6.mono HB5.out.size))
          clear hv6 hb6 Hfo
          go_wp2_with fail
          go_roundw
          case rel => exact ⟨j + 1, (max ro.1 xr.1, min ro.2 xr.2), by omega, by go_num, Hst3, Hv6, HB6⟩
          case measure => simp [intOf]; omega
      · have hjI : ¬ (j : Int) < (mn : Int) := by omega
        have hst2 := Hst2.out
        obtain rfl : j = mn := by omega
        rw [Hmn.out, List.take_length] at hst2
        by_cases hj0 : j = 0
        · have hj0' : ((j : Int) == 0) = true := by simp [hj0]
          have Hno : Hid (parseQ t = ([], 21)) := Hnone.out (by rw [Hsa.out, hst2, ← Hmn.out, hj0]; rfl)
          clear hst2
          go_wp2_with fail
          go_ret2
          rw [Hno.out]
          exact ⟨_, rfl, SlV.nil_ _ _ _, HBw.out⟩
        · have hj0' : ((j : Int) == 0) = false := by simpa using hj0
          have Hst4 : Hid (((L.map mkB).take (k + 1)).foldl stepA (some []) = some (all ++ runL ro)) := Hnx.out _ (by
            rw [Hsa.out, hst2, ← Hmn.out, decide_eq_true (show 0 < j by omega)]; rfl)
          have Hmp : Hid ((all ++ runL ro).map spnAt = all.map spnAt ++ (runL ro).map spnAt) := List.map_append
          have Hrl : Hid (((runL ro).map spnAt).length ≤ 1) := by unfold Hid; rw [List.length_map]; exact runL_len ro
          have Hal : Hid ((all.map spnAt).length ≤ 4097) := by unfold Hid; rw [List.length_map]; exact hal
          have hzz := HB4.out.size
          clear hst2 Hst2 Hnx Hnone Hsa
          go_wp2_with (at_builtin; refine wpList_extend (by rfl) _ _ _ (by rfl) elt_spn Tryz.underlying22 (by rfl) Hownx.out (fun b => w2.heap.size ≤ b) ((runL ro).map spnAt) _ _ _ (by rfl) Hsv.out (by intro q hq he; have := Hol.out q he; omega) (by have := Hrl.out; have := Hal.out; unfold maxLen; omega) (by have := Hrl.out; have := Hal.out; omega) hzz ?_)
          intro v7 w7 hown7 hgrow7 hat7
          have HB7 := Lib.hid (HB4.out.grown hgrow7 hzz (fun g hg => (Hownx.out.lt g hg).1))
          have Hown7 := Lib.hid hown7
          clear hown7 hgrow7 hat7
          go_wp2_with fail
          go_roundw
          case rel => exact ⟨k + 1, all ++ runL ro, _, by omega, by go_num, Hst4, by unfold Hid; rw [Hmp.out]; exact Hown7.out, HB7⟩
          case measure => simp [intOf]; omega
end Go.Proofs.YtghihopmiagcpaaGreatDoor
