/-
  A package copied whole into memory of one's own: walked.
-/
import Derived.Test.YtminjjdnmpaaoaaGreatDoorPp24
import Derived.Deep.CutRange
import Derived.Deep.RegionHeld3
import Derived.Deep.RegionLaw
set_option autoImplicit false
set_option relaxedAutoImplicit false
set_option linter.unusedVariables false
set_option linter.unusedSimpArgs false
namespace Go.Proofs.YtminjjdnmpaaoaaGreatDoor
open Go.Rows Go.RowKit Go.Shelf Go.Sort

theorem elt_spnP : Elt Tryz.prog 70 6 48 := Elt.mk' (z := .agg #[.int .i64 0, .int .i64 0, .int .i64 0, .int .i64 0, .int .i64 0, .int .i64 0]) (by kernel_rfl) rfl (by decide)
theorem elt_depP : Elt Tryz.prog 68 2 40 := Elt.mk' (z := .agg #[.string ⟨#[]⟩, .slice none 0 0]) (by kernel_rfl) rfl (by decide)

set_option maxHeartbeats 1600000 in
set_option maxRecDepth 100000 in
theorem cloneSpan_any (A : Option Addr) (n c : Nat) (l : List Spn) (w : World) (S : Nat → Prop) (hreach : l.length ≤ 1048576) (hl : SlV rSpn w S l (.slice A n c)) :
    Calls Tryz.prog 175 #[.slice A n c] w fun e w' => ∃ v, e = .returned v ∧ SlV rSpn w' (fun b => w.heap.size ≤ b) l v ∧ Below w.heap.size w w' := by
  have he := fun W => Lib.run_eql_slice_nil (P := Tryz.prog) W 66 70 A n c 0 0 Tryz.underlying66
  rcases A with _ | ad
  · obtain ⟨rfl, rfl⟩ := hl.none_
    have hn0 : n = 0 := hl.n_eq
    subst hn0
    simp only [Option.isNone_none] at he
    go_enter Tryz.func175, Tryz.ntmps175
    go_wp2
    go_ret
    exact ⟨_, rfl, SlV.nil_ _ _ _, Below.refl _ _⟩
  · simp only [Option.isNone_some] at he
    go_enter Tryz.func175, Tryz.ntmps175
    have hnx := hl.n_eq
    have Hnx := Lib.hid hnx; clear hnx
    go_wp2_with (at_builtin; (refine wpList_extend (by rfl) _ _ _ (by rfl) elt_spnP Tryz.underlying66 (by rfl) (Own.empty rSpn w w.heap.size 70 (Nat.le_refl _)) (fun b => S b ∧ b < w.heap.size) l _ _ _ (by rfl) ((hl.more fun b h1 h2 => ⟨h1, h2⟩).alloc _) ?_ ?_ ?_ ?_ ?_); rotate_right; (intro v1 w1 hown1 hgrow hat))
    rotate_left
    · intro b hb he
      simp [Value.ownBlock] at he
      omega
    · simp [maxLen]; omega
    · simp; omega
    · simp
    go_ret
    refine ⟨_, rfl, ?_, ((Below.refl _ _).alloc (Nat.le_refl _) _).grown hgrow (by simp) (fun k hk => by simp [Value.ownBlock] at hk; omega)⟩
    have h1 := hown1.slv
    obtain ⟨A', c', g1, g2, g3, g4, g5⟩ := h1
    refine ⟨A', c', g1, g2, g3, g4, fun hn => ?_⟩
    obtain ⟨b, o, hA, hS, hb, hr⟩ := g5 hn
    subst hA
    have hv : v1.ownBlock = some b := by simp only [List.cons.injEq, and_true] at g1; rw [g1]; rfl
    have hbb := (hown1.lt b hv).1
    exact ⟨b, o, rfl, hbb, hb, fun i x hx => by
      obtain ⟨cs, h3, h5⟩ := hr i x hx
      exact ⟨cs, h3, h5⟩⟩

/-- a package's lists are of a size that memory holds -/
def SmallDs (l : List Dep) : Prop := l.length ≤ 1048576 ∧ ∀ d ∈ l, d.range.length ≤ 1048576
def SmallP (x : Pack) : Prop := SmallDs x.deps ∧ SmallDs x.peers ∧ SmallDs x.opts

set_option maxHeartbeats 3200000 in
set_option maxRecDepth 100000 in
theorem ownDeps_any (A : Option Addr) (n c : Nat) (l : List Dep) (w : World) (S : Nat → Prop) (hsm : SmallDs l) (hl : SlV rDep w S l (.slice A n c)) :
    Calls Tryz.prog 158 #[.slice A n c] w fun e w' => ∃ v, e = .returned v ∧ SlV rDep w' (fun b => w.heap.size ≤ b) l v ∧ Below w.heap.size w w' := by
  have hn := hl.n_eq
  have hn63 : n ≤ 1048576 := by rw [hn]; exact hsm.1
  have HL := Lib.hid hl
  have Hn := Lib.hid hn
  have Hsm := Lib.hid hsm.2
  clear hl hn hsm
  go_enter Tryz.func158, Tryz.ntmps158
  go_wp2_with fail
  go_loopw [3, 8] (fun ov iv wr => ∃ (k : Nat) (S : Nat → Prop), k ≤ n ∧ iv = .int .i64 k ∧ Hid (Own rDep wr w.heap.size 68 ov (l.take k) S) ∧ Hid (∀ b, S b → w.heap.size ≤ b) ∧ Hid (Below w.heap.size w wr)) (fun _ iv _ => n - (intOf iv).toNat)
  case atStart => exact ⟨0, fun _ => False, Nat.zero_le _, rfl, Own.nil_ _ _ _ _ (fun b hb => hb.elim), fun b hb => hb.elim, Below.refl _ _⟩
  case round =>
    obtain ⟨k, S1, hk, rfl, Hown, HS1, hbel⟩ := hrel
    have hk0 : (0 : Int) ≤ (k : Int) := by omega
    by_cases hlt : k < n
    case neg =>
      have hI : ¬ (k : Int) < (n : Int) := by omega
      go_wp2_with fail
      go_ret
      have hlk : l.take k = l := List.take_of_length_le (by have := Hn.out; omega)
      have h1 := Hown.out.slv
      rw [hlk] at h1
      exact ⟨_, rfl, h1.more fun b hb _ => by rcases hb with hb | hb; exact HS1.out b hb; exact hb, hbel.out⟩
    have hkn : (k : Int) < (n : Int) := by omega
    obtain ⟨d, hd⟩ : ∃ d, l[k]? = some d := ⟨_, List.getElem?_eq_getElem (by have := Hn.out; omega)⟩
    obtain ⟨b, o, cs, hA, _, hb1, hh, hcell⟩ := (HL.out.belowSize hbel.out).elem hd
    obtain ⟨s0, rfl, hnm, hrg⟩ := hh
    obtain ⟨rA, rc, rfl, _, _⟩ := hrg.val
    subst hA
    have c0 := hcell 0 _ rfl
    have c1 := hcell 1 _ rfl
    simp only [rDep, Nat.add_zero] at c0 c1
    have hrz := Hsm.out d (List.mem_of_getElem? hd)
    have Htk : Hid (l.take (k + 1) = l.take k ++ [d]) := by unfold Hid; rw [List.take_add_one, hd]; rfl
    have Hlen : Hid ((l.take k).length = k) := by unfold Hid; rw [List.length_take]; have := Hn.out; omega
    obtain ⟨dn, dr⟩ := d
    simp only at c0 c1 hnm hrg hrz Htk
    generalize l.take k = done at *
    obtain ⟨rn, hrn⟩ : ∃ rn, rn = dr.length := ⟨_, rfl⟩
    rw [← hrn] at c1 hrg
    have Hrn := Lib.hid hrn
    have Hrg := Lib.hid hrg
    have Hrz := Lib.hid hrz
    have Hnm := Lib.hid hnm
    clear hcell hd hrn hrg hrz hnm
    go_upto_region 5 with (fail)
    obtain ⟨wv, hwv⟩ : ∃ wv, wv = wr.alloc (.cells #[.string dn, .slice rA rn rc] 68) := ⟨_, rfl⟩
    have hcc : wv.heap[wr.heap.size]? = some (.cells #[.string dn, .slice rA rn rc] 68 (0, 0)) := by rw [hwv]; exact heap_new _ _
    have HBv : Hid (Below wr.heap.size wr wv) := by unfold Hid; rw [hwv]; exact bal (Below.refl _ _) _
    rw [← hwv]
    have hv0 := cell_of_row _ _ 0 _ _ _ hcc
    have hv1 := cell_of_row _ _ 1 _ _ _ hcc
    have hBlt : wr.heap.size < wv.heap.size := cell_lt hv0
    have HOwn : Hid (Own rDep wv w.heap.size 68 u3 done S1) := Hown.out.keep HBv.out
    have Hlt : Hid (∀ k, u3.ownBlock = some k → k < wr.heap.size) := fun k hk => (Hown.out.lt k hk).2
    have HCl : Hid (∀ W, Below wv.heap.size wv W → Calls Tryz.prog 175 #[.slice rA rn rc] W fun e w' => ∃ v, e = .returned v ∧ SlV rSpn w' (fun b => W.heap.size ≤ b) dr v ∧ Below W.heap.size W w') := fun W hW => cloneSpan_any rA rn rc dr W _ Hrz.out ((Hrg.out.belowSize HBv.out).belowSize hW)
    have hwsz : w.heap.size ≤ wr.heap.size := hbel.out.size
    have HB2 := Lib.hid (bot hbel.out HBv.out)
    clear hcc hwv Hown c0 c1 hbel Hrg
    have HFar : Hid (some wr.heap.size ≠ u3.ownBlock) := fun he => by have := Hlt.out _ he.symm; omega
    go_wp2_with fail
    go_region_held3 (fun w' => w'.cell? ⟨wr.heap.size, 0, none⟩ = some (.string dn) ∧ w'.cell? ⟨wr.heap.size, 1, none⟩ = some (.slice rA rn rc))
      (first
        | go_keep
        | exact ⟨below_cell hb1 hv0 hBlt, below_cell hb1 hv1 hBlt⟩
        | exact ⟨hgrow.cell (by go_keep) HFar.out, hgrow.cell (by go_keep) HFar.out⟩)
      (first
        | (go_at_call 175; refine (HCl.out _ (Below.refl _ _).drew).mono ?_; rintro e w1 ⟨q, rfl, hq, hb1⟩; obtain ⟨qA, qc, rfl, _, _⟩ := hq.val; rw [← Hrn.out] at hq ⊢; have HO := Lib.hid ((HOwn.out.drew.keep hb1).moreNew (B := wv.heap.size) (fun k hk => Nat.lt_trans (Hlt.out k hk) hBlt)); have HQ := Lib.hid hq; have HB1 := Lib.hid hb1; clear hq)
        | (refine step_push (by rfl) _ _ _ (by rfl) elt_depP Tryz.underlying26 (by rfl) (HO.out.alloc _) ⟨w1.heap.size, 0, none⟩ 1 [.string dn, .slice qA rn qc] ⟨dn, dr⟩ (by rfl) (Rp.alloc (r := rDep) ⟨_, rfl, Hnm.out, HQ.out.more fun b hb hlb => .inr ⟨hb, hlb⟩⟩ _)
            (news_of w1 #[.string dn, .slice qA rn qc] _) (by rw [Hlen.out]; unfold maxLen; omega) (by rw [Hlen.out]; omega) (by simp; have := HB1.out.size; simp at this; omega) (w1.heap.size + 1) (by simp) ?_; intro g cap w4 hown4 hgrow hat hg4))
    rw [Hlen.out] at hown4
    have Hown4 := Lib.hid hown4
    have HB4 := Lib.hid (bgrown (bal (bot (bot HB2.out (Below.refl _ _).drew) HB1.out) _) hgrow (HO.out.alloc _) (Nat.le_refl _))
    have HS4 : Hid (∀ b, (S1 b ∨ (wv.heap.size ≤ b ∧ b < w1.heap.size)) → w.heap.size ≤ b) := fun b hb => by
      rcases hb with hb | hb
      · exact HS1.out b hb
      · omega
    clear hown4 hgrow hat hg4 HO HQ HB1 HOwn
    go_wp2_with fail
    rw [Hlen.out]
    go_roundw
    case rel => exact ⟨k + 1, _, by omega, by go_num, by rw [Htk.out]; exact Hown4, HS4, HB4⟩
    case measure => simp [intOf]; omega

set_option maxHeartbeats 3200000 in
set_option maxRecDepth 100000 in
theorem ownPack_any (x : Pack) (v : Value) (w : World) (S : Nat → Prop) (hsm : SmallP x) (hv : PackV w S x v) :
    Calls Tryz.prog 131 #[v] w fun e w' => ∃ v', e = .returned v' ∧ PackV w' (fun b => w.heap.size ≤ b) x v' ∧ Below w.heap.size w w' := by
  obtain ⟨dA, dn, dc, eA, en, ec, fA, fn, fc, rfl, hnm, h1, h2, h3⟩ := hv
  have HA : Hid (∀ W, Below w.heap.size w W → Calls Tryz.prog 158 #[.slice dA dn dc] W fun e w' => ∃ v, e = .returned v ∧ SlV rDep w' (fun b => W.heap.size ≤ b) x.deps v ∧ Below W.heap.size W w') := fun W hW => ownDeps_any dA dn dc _ W _ hsm.1 (h1.belowSize hW)
  have HE : Hid (∀ W, Below w.heap.size w W → Calls Tryz.prog 158 #[.slice eA en ec] W fun e w' => ∃ v, e = .returned v ∧ SlV rDep w' (fun b => W.heap.size ≤ b) x.peers v ∧ Below W.heap.size W w') := fun W hW => ownDeps_any eA en ec _ W _ hsm.2.1 (h2.belowSize hW)
  have HF : Hid (∀ W, Below w.heap.size w W → Calls Tryz.prog 158 #[.slice fA fn fc] W fun e w' => ∃ v, e = .returned v ∧ SlV rDep w' (fun b => W.heap.size ≤ b) x.opts v ∧ Below W.heap.size W w') := fun W hW => ownDeps_any fA fn fc _ W _ hsm.2.2 (h3.belowSize hW)
  have Hnm := Lib.hid hnm
  clear h1 h2 h3 hnm hsm
  go_enter Tryz.func131, Tryz.ntmps131
  go_upto_region 1 with (fail)
  obtain ⟨x0, hx0⟩ : ∃ k, k = x.name := ⟨_, rfl⟩
  obtain ⟨x1, hx1⟩ : ∃ k, k = x.ver.major := ⟨_, rfl⟩
  obtain ⟨x2, hx2⟩ : ∃ k, k = x.ver.minor := ⟨_, rfl⟩
  obtain ⟨x3, hx3⟩ : ∃ k, k = x.ver.patch := ⟨_, rfl⟩
  rw [← hx0, ← hx1, ← hx2, ← hx3]
  have Hx : Hid (x0 = x.name ∧ x1 = x.ver.major ∧ x2 = x.ver.minor ∧ x3 = x.ver.patch) := ⟨hx0, hx1, hx2, hx3⟩
  clear hx0 hx1 hx2 hx3
  obtain ⟨wa, hwa⟩ : ∃ wa, wa = w.alloc (.cells #[.string x0, .int .i64 x1, .int .i64 x2, .int .i64 x3, .slice dA dn dc, .slice eA en ec, .slice fA fn fc] 52) := ⟨_, rfl⟩
  have hca : wa.heap[w.heap.size]? = some (.cells #[.string x0, .int .i64 x1, .int .i64 x2, .int .i64 x3, .slice dA dn dc, .slice eA en ec, .slice fA fn fc] 52 (0, 0)) := by rw [hwa]; exact heap_new _ _
  have hBa : Below w.heap.size w wa := by rw [hwa]; exact bal (Below.refl _ _) _
  have hsz : w.heap.size + 1 = wa.heap.size := by rw [hwa]; simp
  rw [← hwa, hsz]
  obtain ⟨wb, hwb⟩ : ∃ wb, wb = wa.alloc (.cells #[.string ⟨#[]⟩, .int .i64 0, .int .i64 0, .int .i64 0, .slice none 0 0, .slice none 0 0, .slice none 0 0] 52) := ⟨_, rfl⟩
  have hcb : wb.heap[wa.heap.size]? = some (.cells #[.string ⟨#[]⟩, .int .i64 0, .int .i64 0, .int .i64 0, .slice none 0 0, .slice none 0 0, .slice none 0 0] 52 (0, 0)) := by rw [hwb]; exact heap_new _ _
  have hBb : Below wa.heap.size wa wb := by rw [hwb]; exact bal (Below.refl _ _) _
  have hcab := (hBb.block _ (Array.getElem?_eq_some_iff.1 hca).1).trans hca
  rw [← hwb]
  obtain ⟨PA, hPA⟩ : ∃ k, k = w.heap.size := ⟨_, rfl⟩
  obtain ⟨PB, hPB⟩ : ∃ k, k = wa.heap.size := ⟨_, rfl⟩
  rw [← hPA] at hcab
  rw [← hPB] at hcb
  have hza : PA < wb.heap.size := (Array.getElem?_eq_some_iff.1 hcab).1
  have hzb : PB < wb.heap.size := (Array.getElem?_eq_some_iff.1 hcb).1
  have HBb := Lib.hid (bot hBa hBb)
  have Hca := Lib.hid hcab
  have Hcb := Lib.hid hcb
  have y4 := cell_of_row _ _ 4 _ _ _ hcab
  have y5 := cell_of_row _ _ 5 _ _ _ hcab
  have y6 := cell_of_row _ _ 6 _ _ _ hcab
  have hne : PA ≠ PB := by omega
  have HPA := Lib.hid hPA
  have HPB : Hid (w.heap.size ≤ PB) := by unfold Hid; omega
  rw [← hPA, ← hPB]
  clear hwa hwb hca hBa hsz hBb hcab hcb hPA hPB
  go_wp2_with fail
  go_region_law?
   (first
    | (go_simp; go_at_call 158; with_reducible refine (HA.out _ ?_).mono ?_; exact bot HBb.out (Below.refl _ _).drew; rintro e w1 ⟨v1, rfl, hv1, hb1⟩; obtain ⟨A1, e1, rfl, _, _⟩ := hv1.val; have HB1 := Lib.hid (show Below wb.heap.size wb w1 from bot (Below.refl _ _).drew hb1); have HV1 := Lib.hid hv1; have z5 := below_cell HB1.out y5 hza; have z6 := below_cell HB1.out y6 hza; clear hv1 hb1)
    | (go_simp; go_at_call 158; with_reducible refine (HE.out _ ?_).mono ?_; exact bot HBb.out HB1.out; rintro e w2 ⟨v2, rfl, hv2, hb2⟩; obtain ⟨A2, e2, rfl, _, _⟩ := hv2.val; have HB2 := Lib.hid (show Below wb.heap.size wb w2 from bot HB1.out hb2); have HB12 := Lib.hid hb2; have HV2 := Lib.hid hv2; have z6 := below_cell HB2.out y6 hza; clear hv2 hb2)
    | (go_simp; go_at_call 158; with_reducible refine (HF.out _ ?_).mono ?_; exact bot HBb.out HB2.out; rintro e w3 ⟨v3, rfl, hv3, hb3⟩; obtain ⟨A3, e3, rfl, _, _⟩ := hv3.val; have HB3 := Lib.hid (show Below wb.heap.size wb w3 from bot HB2.out hb3); have HB23 := Lib.hid hb3; have HV3 := Lib.hid hv3; have k3 := (HB3.out.block _ hza).trans Hca.out; have k4 := cell_of_row _ _ 4 _ _ _ k3; have k5 := cell_of_row _ _ 5 _ _ _ k3; have k6 := cell_of_row _ _ 6 _ _ _ k3; have f4 : w3.frozen? ⟨PA, 4, none⟩ = false := frozen_row k3; have f5 : w3.frozen? ⟨PA, 5, none⟩ = false := frozen_row k3; have f6 : w3.frozen? ⟨PA, 6, none⟩ = false := frozen_row k3; clear hv3 hb3 k3))
  all_goals
    have k3 := (HB3.out.block _ hza).trans Hca.out
    have k4 := (HB3.out.block _ hzb).trans Hcb.out
    have hPa : w.heap.size ≤ PA := by have := HPA.out; omega
    have q1 := heap_setP (heap_setP (heap_setP k3 (o := 4) (.slice A1 x.deps.length e1)) (o := 5) (.slice A2 x.peers.length e2)) (o := 6) (.slice A3 x.opts.length e3)
    have q2 : (((w3.setCell ⟨PA, 4, none⟩ (.slice A1 x.deps.length e1)).setCell ⟨PA, 5, none⟩ (.slice A2 x.peers.length e2)).setCell ⟨PA, 6, none⟩ (.slice A3 x.opts.length e3)).heap[PB]? = some (.cells #[.string ⟨#[]⟩, .int .i64 0, .int .i64 0, .int .i64 0, .slice none 0 0, .slice none 0 0, .slice none 0 0] 52 (0, 0)) := by
      rw [heap_setCell_other _ _ _ _ hne.symm, heap_setCell_other _ _ _ _ hne.symm, heap_setCell_other _ _ _ _ hne.symm]; exact k4
    have HB5 := Lib.hid ((((bot HBb.out HB3.out).setCell (p := ⟨PA, 4, none⟩) hPa (.slice A1 x.deps.length e1)).setCell (p := ⟨PA, 5, none⟩) hPa (.slice A2 x.peers.length e2)).setCell (p := ⟨PA, 6, none⟩) hPa (.slice A3 x.opts.length e3))
    have H4 : Hid (∀ b, b ≠ PA → (((w3.setCell ⟨PA, 4, none⟩ (.slice A1 x.deps.length e1)).setCell ⟨PA, 5, none⟩ (.slice A2 x.peers.length e2)).setCell ⟨PA, 6, none⟩ (.slice A3 x.opts.length e3)).heap[b]? = w3.heap[b]?) := fun b hb => by rw [heap_setCell_other _ _ _ _ hb, heap_setCell_other _ _ _ _ hb, heap_setCell_other _ _ _ _ hb]
    have HV1' := Lib.hid ((HV1.out.belowSize HB12.out).belowSize HB23.out)
    have HV2' := Lib.hid (HV2.out.belowSize HB23.out)
    generalize hw4 : ((w3.setCell ⟨PA, 4, none⟩ (.slice A1 x.deps.length e1)).setCell ⟨PA, 5, none⟩ (.slice A2 x.peers.length e2)).setCell ⟨PA, 6, none⟩ (.slice A3 x.opts.length e3) = w4 at *
    have r0 := cell_of_row _ _ 0 _ _ _ q1
    have r1 := cell_of_row _ _ 1 _ _ _ q1
    have r2 := cell_of_row _ _ 2 _ _ _ q1
    have r3 := cell_of_row _ _ 3 _ _ _ q1
    have r4 := cell_of_row _ _ 4 _ _ _ q1
    have r5 := cell_of_row _ _ 5 _ _ _ q1
    have r6 := cell_of_row _ _ 6 _ _ _ q1
    have s0 := cell_of_row _ _ 0 _ _ _ q2
    have s1 := cell_of_row _ _ 1 _ _ _ q2
    have s2 := cell_of_row _ _ 2 _ _ _ q2
    have s3 := cell_of_row _ _ 3 _ _ _ q2
    have s4 := cell_of_row _ _ 4 _ _ _ q2
    have s5 := cell_of_row _ _ 5 _ _ _ q2
    have s6 := cell_of_row _ _ 6 _ _ _ q2
    have f0 : w4.frozen? ⟨PB, 0, none⟩ = false := frozen_row q2
    have f1 : w4.frozen? ⟨PB, 1, none⟩ = false := frozen_row q2
    have f2 : w4.frozen? ⟨PB, 2, none⟩ = false := frozen_row q2
    have f3 : w4.frozen? ⟨PB, 3, none⟩ = false := frozen_row q2
    have f4 : w4.frozen? ⟨PB, 4, none⟩ = false := frozen_row q2
    have f5 : w4.frozen? ⟨PB, 5, none⟩ = false := frozen_row q2
    have f6 : w4.frozen? ⟨PB, 6, none⟩ = false := frozen_row q2
    have Q2 := Lib.hid q2
    clear q1 q2 k3 k4 hw4 hPa
    go_wp2_with fail
    have q3 := heap_setP (heap_setP (heap_setP (heap_setP (heap_setP (heap_setP (heap_setP Q2.out (o := 0) (.string x0)) (o := 1) (.int .i64 x1)) (o := 2) (.int .i64 x2)) (o := 3) (.int .i64 x3)) (o := 4) (.slice A1 x.deps.length e1)) (o := 5) (.slice A2 x.peers.length e2)) (o := 6) (.slice A3 x.opts.length e3)
    have HB6 := Lib.hid (((((((HB5.out.setCell (p := ⟨PB, 0, none⟩) HPB.out (.string x0)).setCell (p := ⟨PB, 1, none⟩) HPB.out (.int .i64 x1)).setCell (p := ⟨PB, 2, none⟩) HPB.out (.int .i64 x2)).setCell (p := ⟨PB, 3, none⟩) HPB.out (.int .i64 x3)).setCell (p := ⟨PB, 4, none⟩) HPB.out (.slice A1 x.deps.length e1)).setCell (p := ⟨PB, 5, none⟩) HPB.out (.slice A2 x.peers.length e2)).setCell (p := ⟨PB, 6, none⟩) HPB.out (.slice A3 x.opts.length e3))
    have H6 : Hid (∀ b, b ≠ PA → b ≠ PB → (((((((w4.setCell ⟨PB, 0, none⟩ (.string x0)).setCell ⟨PB, 1, none⟩ (.int .i64 x1)).setCell ⟨PB, 2, none⟩ (.int .i64 x2)).setCell ⟨PB, 3, none⟩ (.int .i64 x3)).setCell ⟨PB, 4, none⟩ (.slice A1 x.deps.length e1)).setCell ⟨PB, 5, none⟩ (.slice A2 x.peers.length e2)).setCell ⟨PB, 6, none⟩ (.slice A3 x.opts.length e3)).heap[b]? = w3.heap[b]?) := fun b hb1 hb => by
      rw [heap_setCell_other _ _ _ _ hb, heap_setCell_other _ _ _ _ hb, heap_setCell_other _ _ _ _ hb, heap_setCell_other _ _ _ _ hb, heap_setCell_other _ _ _ _ hb, heap_setCell_other _ _ _ _ hb, heap_setCell_other _ _ _ _ hb]
      exact H4.out b hb1
    generalize (((((((w4.setCell ⟨PB, 0, none⟩ (.string x0)).setCell ⟨PB, 1, none⟩ (.int .i64 x1)).setCell ⟨PB, 2, none⟩ (.int .i64 x2)).setCell ⟨PB, 3, none⟩ (.int .i64 x3)).setCell ⟨PB, 4, none⟩ (.slice A1 x.deps.length e1)).setCell ⟨PB, 5, none⟩ (.slice A2 x.peers.length e2)).setCell ⟨PB, 6, none⟩ (.slice A3 x.opts.length e3)) = w6 at *
    have t0 := cell_of_row _ _ 0 _ _ _ q3
    have t1 := cell_of_row _ _ 1 _ _ _ q3
    have t2 := cell_of_row _ _ 2 _ _ _ q3
    have t3 := cell_of_row _ _ 3 _ _ _ q3
    have t4 := cell_of_row _ _ 4 _ _ _ q3
    have t5 := cell_of_row _ _ 5 _ _ _ q3
    have t6 := cell_of_row _ _ 6 _ _ _ q3
    have Hs1 : Hid (∀ k, wb.heap.size ≤ k → w.heap.size ≤ k ∧ k ≠ PA ∧ k ≠ PB) := fun k hk => by have := HPB.out; omega
    have Hs2 : Hid (wb.heap.size ≤ w1.heap.size ∧ wb.heap.size ≤ w2.heap.size) := ⟨HB1.out.size, HB2.out.size⟩
    clear q3 r0 r1 r2 r3 r4 r5 r6 s0 s1 s2 s3 s4 s5 s6 f0 f1 f2 f3 f4 f5 f6
    refine bodyPost_ret (v := .agg #[.string x0, .int .i64 x1, .int .i64 x2, .int .i64 x3, .slice A1 x.deps.length e1, .slice A2 x.peers.length e2, .slice A3 x.opts.length e3]) (by simp [results, Tryz.results131, t0, t1, t2, t3, t4, t5, t6, go_sem]) rfl ?_
    refine ⟨_, rfl, ⟨_, _, _, _, _, _, _, _, _, by rw [Hx.out.1, Hx.out.2.1, Hx.out.2.2.1, Hx.out.2.2.2], Hnm.out, ?_, ?_, ?_⟩, HB6.out⟩
    · exact (HV1'.out.keep fun b hb _ => H6.out b (Hs1.out b hb).2.1 (Hs1.out b hb).2.2).more fun b hb _ => (Hs1.out b hb).1
    · exact (HV2'.out.keep fun b hb _ => H6.out b (Hs1.out b (Nat.le_trans Hs2.out.1 hb)).2.1 (Hs1.out b (Nat.le_trans Hs2.out.1 hb)).2.2).more fun b hb _ => (Hs1.out b (Nat.le_trans Hs2.out.1 hb)).1
    · exact (HV3.out.keep fun b hb _ => H6.out b (Hs1.out b (Nat.le_trans Hs2.out.2 hb)).2.1 (Hs1.out b (Nat.le_trans Hs2.out.2 hb)).2.2).more fun b hb _ => (Hs1.out b (Nat.le_trans Hs2.out.2 hb)).1
end Go.Proofs.YtminjjdnmpaaoaaGreatDoor
