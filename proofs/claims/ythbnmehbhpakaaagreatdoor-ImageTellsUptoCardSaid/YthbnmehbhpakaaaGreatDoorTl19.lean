/-
  tree.Inside: what stands in a directory's modules, by names. The document's Inside: each is put at its place.
-/
import Derived.Test.YthbnmehbhpakaaaGreatDoorTl18
set_option autoImplicit false
set_option relaxedAutoImplicit false
set_option linter.unusedVariables false
set_option linter.unusedSimpArgs false
namespace Go.Proofs.YthbnmehbhpakaaaGreatDoor
open Go.Rows Go.RowKit Go.Shelf Go.Sort

theorem elt_int3 : Elt Tryz.prog 3 1 8 := Elt.mk' (z := .int .i64 0) (by kernel_rfl) rfl (by decide)
theorem cell_new3 {W W1 : World} {cs : Array Value} {t : TypeId} (h : W1 = W.alloc (.cells cs t)) {n : Nat} (hn : n = W.heap.size) {j : Nat} {v : Value} (hv : cs[j]? = some v) : W1.cell? ⟨n, j, none⟩ = some v := by
  subst h; subst hn
  exact (World.cell?_alloc_new W cs t j).trans hv

noncomputable def insQ (xs : List Dir) (home : List ByteArray) (i : Nat) : Bool := match xs[i]? with | some d => decide (d.path.length = home.length + 1) && eqB (d.path.take home.length) home | none => false
noncomputable def insideL (xs : List Dir) (a : Nat) : List Nat := match xs[a]? with | some d => insR (nmL xs) (insQ xs d.path) xs.length | none => []
noncomputable def insideI (xs : List Dir) (x : Int) : List Nat := if 0 ≤ x then insideL xs x.toNat else []
theorem insQ_at {xs : List Dir} {home : List ByteArray} {i : Nat} (h : i < xs.length) : insQ xs home i = (decide (xs[i].path.length = home.length + 1) && eqB (xs[i].path.take home.length) home) := by
  unfold insQ; rw [List.getElem?_eq_getElem h]
theorem insideI_lo {xs : List Dir} {x : Int} (h : x < 0) : insideI xs x = [] := by unfold insideI; rw [if_neg (by omega)]
theorem insideI_hi {xs : List Dir} {x : Int} (h : (xs.length : Int) ≤ x) : insideI xs x = [] := by
  unfold insideI insideL
  split
  · rw [List.getElem?_eq_none (by omega)]
  · rfl
theorem insideI_at {xs : List Dir} {k : Nat} (h : k < xs.length) : insideI xs (k : Int) = insR (nmL xs) (insQ xs xs[k].path) xs.length := by
  unfold insideI insideL
  rw [if_pos (by omega), Int.toNat_natCast, List.getElem?_eq_getElem h]
theorem filter_next (q : Nat → Bool) (k : Nat) : (List.range (k + 1)).filter q = bif q k then (List.range k).filter q ++ [k] else (List.range k).filter q := by
  rw [List.range_succ, List.filter_append]
  cases h : q k <;> simp [h]
theorem castL_push (l : List Nat) (k : Nat) : castL l ++ [(k : Int)] = castL (l ++ [k]) := by simp [castL]
theorem elems_ints {w : World} {S : Nat → Prop} : ∀ {l : List Int} {xs : List Value}, Elems rInt w S l xs → xs = l.map (Value.int .i64) := by
  intro l
  induction l with
  | nil => intro xs h; exact h
  | cons x l ih =>
    intro xs h
    obtain ⟨cs, rest, rfl, ⟨rfl, _⟩, h3⟩ := h
    rw [ih h3]; rfl
theorem own_irow {w : World} {base : Nat} {e : TypeId} {v : Value} {l : List Int} {S : Nat → Prop} (h : Own rInt w base e v l S) (h0 : 0 < l.length) : ∃ g cap, v = .slice (some ⟨g, 0, none⟩) l.length cap ∧ IRow w base g 0 cap l := by
  obtain ⟨_, xs, h1, h2⟩ := h
  obtain ⟨g, cap, rfl, _, _⟩ := World.ownsRow.form h1 h0
  rw [elems_ints h2] at h1
  exact ⟨g, cap, rfl, IRow.of_owns h1⟩

set_option maxHeartbeats 3200000 in
set_option maxRecDepth 100000 in
theorem inside_any (A : Option Addr) (n c : Nat) (xs : List Dir) (x : Int) (w : World) (S : Nat → Prop) (hx : SlV rDir w S xs (.slice A n c)) (hlen : ∀ d ∈ xs, d.path.length * 32 ≤ 140737488355328) (hnb : xs.length ≤ 1048576) :
    Calls Tryz.prog 27 #[.agg #[.slice A n c], .int .i64 x] w fun e w' => (∃ v, e = .returned v ∧ SlV rInt w' (fun b => w.heap.size ≤ b) (castL (insideI xs x)) v) ∧ Below w.heap.size w w' := by
  have hnx := hx.n_eq
  have hcx := hx.cap_le
  unfold maxLen at hcx
  by_cases h0 : x < 0
  · have hd : decide (x < 0) = true := decide_eq_true h0
    have He : Hid (insideI xs x = []) := insideI_lo h0
    clear hx hnx hcx hlen
    generalize insideI xs x = R at *
    go_enter Tryz.func27, Tryz.ntmps27
    go_wp2_with fail
    go_ret
    refine ⟨⟨_, rfl, ?_⟩, bal (Below.refl _ _) _⟩
    rw [He.out]; exact SlV.nil_ _ _ _
  have hd : decide (x < 0) = false := decide_eq_false h0
  by_cases h1 : (n : Int) ≤ x
  · have hd1 : decide ((n : Int) ≤ x) = true := decide_eq_true h1
    have He : Hid (insideI xs x = []) := insideI_hi (by omega)
    clear hx hnx hcx hlen
    generalize insideI xs x = R at *
    go_enter Tryz.func27, Tryz.ntmps27
    go_wp2_with fail
    go_ret
    refine ⟨⟨_, rfl, ?_⟩, bal (Below.refl _ _) _⟩
    rw [He.out]; exact SlV.nil_ _ _ _
  have hd1 : decide ((n : Int) ≤ x) = false := decide_eq_false h1
  obtain ⟨k, rfl⟩ : ∃ k : Nat, x = (k : Int) := ⟨x.toNat, by omega⟩
  have hk : k < xs.length := by omega
  have HR : Hid (insideI xs (k : Int) = insR (nmL xs) (insQ xs xs[k].path) xs.length) := insideI_at hk
  generalize insideI xs (k : Int) = R at *
  have hkn : (k : Int) < (n : Int) := by omega
  have hk0 : (0 : Int) ≤ (k : Int) := by omega
  have hn63 : n ≤ 1048576 := by omega
  have HX := Lib.hid (hx.more (S' := fun b => b < w.heap.size) fun b _ h => h)
  have hlk := hlen xs[k] (List.getElem_mem hk)
  have Hlen := Lib.hid hlen
  obtain ⟨b, o, cs, rfl, _, hb1, hh, hcell⟩ := hx.elem (List.getElem?_eq_getElem hk)
  obtain ⟨s0, s1, s2, s3, rfl, hp, _, _, _, _, _, _, _, _⟩ := hh
  obtain ⟨hA, hc, rfl, hpl, hpm⟩ := hp.val
  unfold maxLen at hpm
  have c0 := hcell 0 _ rfl
  simp only [rDir, Nat.add_zero] at c0
  have HP := Lib.hid (hp.more (S' := fun b => b < w.heap.size) fun b _ h => h)
  have Hnx := Lib.hid hnx
  clear hcell hp hx hlen hcx hnx hnb
  generalize xs[k].path = home at *
  generalize hl0 : home.length = h at *
  have Hh := Lib.hid hl0; clear hl0
  go_enter Tryz.func27, Tryz.ntmps27
  go_wp2_with fail
  obtain ⟨w0, hw0⟩ : ∃ w0, w0 = (w.alloc (.cells #[.slice (some ⟨b, o, none⟩) n c] 30)).alloc (.cells #[.slice hA h hc] 53) := ⟨_, rfl⟩
  have hz : w.heap.size < w0.heap.size := by rw [hw0]; simp [go_sem]
  have hz1 : w.heap.size + 1 < w0.heap.size := by rw [hw0]; simp [go_sem]
  have HB0 : Hid (Below w.heap.size w w0) := by unfold Hid; rw [hw0]; exact bal (bal (Below.refl _ _) _) _
  have a0 : w0.cell? ⟨w.heap.size, 0, none⟩ = some (.slice (some ⟨b, o, none⟩) n c) := by rw [hw0]; simp [go_sem]
  have a1 : w0.cell? ⟨w.heap.size + 1, 0, none⟩ = some (.slice hA h hc) := by rw [hw0]; simp [go_sem]
  rw [← hw0]
  clear hw0
  have HA : Hid (w0.cell? ⟨w.heap.size, 0, none⟩ = some (.slice (some ⟨b, o, none⟩) n c) ∧ w0.cell? ⟨w.heap.size + 1, 0, none⟩ = some (.slice hA h hc)) := ⟨a0, a1⟩
  clear a0 a1 c0
  go_loopw [6, 28] (fun v i wr => ∃ j : Nat, j ≤ n ∧ i = .int .i64 j ∧ Hid (Own rInt wr w0.heap.size 3 v (castL ((List.range j).filter (insQ xs home))) (fun _ => False)) ∧ Below w0.heap.size w0 wr) (fun _ i _ => n - (intOf i).toNat)
  case atStart => exact ⟨0, Nat.zero_le _, rfl, Own.nil_ rInt w0 w0.heap.size 3 (S := fun _ => False) (fun b h => h.elim), Below.refl _ _⟩
  case round =>
    obtain ⟨j, hj, rfl, Hown, hbel⟩ := hrel
    have b0 := below_cell hbel HA.out.1 hz
    have b1 := below_cell hbel HA.out.2 hz1
    have hbw := bot HB0.out hbel
    by_cases hlt : j < n
    case pos =>
      have hjx : j < xs.length := by have := Hnx.out; omega
      have hjI : (j : Int) < (n : Int) := by omega
      have hj0 : (0 : Int) ≤ (j : Int) := by omega
      obtain ⟨b2, o2, cs2, hAe2, _, hb2, hh2, hcell2⟩ := HX.out.elem (List.getElem?_eq_getElem hjx)
      obtain ⟨z0, z1, z2, z3, rfl, hp2, _, _, _, _, _, _, _, _⟩ := hh2
      obtain ⟨fA, fc, rfl, hfl, hfm⟩ := hp2.val
      unfold maxLen at hfm
      simp only [Option.some.injEq, Addr.mk.injEq] at hAe2
      obtain ⟨rfl, rfl, _⟩ := hAe2
      have c1 := below_cell hbw (hcell2 0 _ rfl) hb2
      simp only [rDir, Nat.add_zero] at c1
      have Hq := Lib.hid (insQ_at (home := home) hjx)
      have HP2 := Lib.hid hp2
      have Hnext := Lib.hid (filter_next (insQ xs home) j)
      have hfl2 : ((List.range j).filter (insQ xs home)).length ≤ j := by
        have := List.length_filter_le (insQ xs home) (List.range j)
        rw [List.length_range] at this; exact this
      have hcll : (castL ((List.range j).filter (insQ xs home))).length ≤ j := by unfold castL; rw [List.length_map]; exact hfl2
      clear hcell2 hp2 hfl2
      generalize xs[j].path = pt at *
      generalize insQ xs home j = qj at *
      have H1 : Hid (pt.length = h + 1 → ∀ d os, Calls Tryz.prog 75 #[.slice fA h fc, .slice hA h hc] (grow (redrawn wr d) os) fun e w'' => e = .returned (.bool (eqB (pt.take h) home)) ∧ ∃ p : Regrown, w'' = grow (redrawn wr p.d) p.os) := fun hl =>
        qcall (w := wr) (fun W hW => strsEq_any _ _ _ _ _ _ (pt.take h) home W _ _ ((SlV.take HP2.out (by omega)).belowSize (bot hbw hW)) (HP.out.belowSize (bot hbw hW)))
      rw [Hh.out] at Hq
      generalize hl2 : pt.length = l2 at *
      by_cases hlh : l2 = h + 1
      case neg =>
        have hlb : ((l2 : Int) == (h : Int) + 1) = false := by simp; omega
        have hqj : Hid (qj = false) := by unfold Hid; rw [Hq.out, decide_eq_false hlh]; rfl
        have hfe : (List.range (j + 1)).filter (insQ xs home) = (List.range j).filter (insQ xs home) := by rw [Hnext.out, hqj.out]; rfl
        have Hown2 := Lib.hid Hown.out
        rw [← hfe] at Hown2
        clear hfe
        clear hlh hl2 H1 Hown
        have hw9 : IntKind.i64.wrap ((h : Int) + 1) = (h : Int) + 1 := IntWalk.i64_in _ ⟨by omega, by omega⟩
        have r_b0 := cell_regrown b0
        have r_b1 := cell_regrown b1
        have r_c1 := cell_regrown c1
        go_wp2_with fail
        go_wp2_with fail
        refine wp_region_qb (by kernel_rfl) (by kernel_rfl) ?_
        repeat (go_big_quiet_step (first | fail))
        refine wpQuiet_nil ?_
        intro w3 B3
        have HO3 := Lib.hid (Hown2.out.keep B3)
        have Q3 := Lib.hid (bot hbel B3)
        clear b0 b1 c1 r_b0 r_b1 r_c1 B3 Hown2 hbel hbw
        go_wp2_with fail
        go_roundw
        case rel => exact ⟨j + 1, by omega, by go_num, HO3, Q3.out⟩
        case measure => simp [intOf]; omega
      have H2 := Lib.hid (H1.out hlh)
      rw [hlh] at c1 hfl
      have hlb : (((h + 1 : Nat) : Int) == (h : Int) + 1) = true := by simp
      have hlc : (((h : Int) + 1) == (h : Int) + 1) = true := by simp
      have hw9 : IntKind.i64.wrap ((h : Int) + 1) = (h : Int) + 1 := IntWalk.i64_in _ ⟨by omega, by omega⟩
      have hhc : h ≤ fc := by omega
      have hh0 : (0 : Int) ≤ (h : Int) := by omega
      have Hq2 : Hid (qj = eqB (pt.take h) home) := by unfold Hid; rw [Hq.out, decide_eq_true hlh, Bool.true_and]
      clear H1 hl2 hlh Hq
      generalize eqB (pt.take h) home = ev at *
      have Hq3 : Hid (ev = qj) := Hq2.out.symm
      clear Hq2
      obtain ⟨ln, hln⟩ : ∃ ln, (castL ((List.range j).filter (insQ xs home))).length = ln := ⟨_, rfl⟩
      have Hlen : Hid ((castL ((List.range j).filter (insQ xs home))).length = ln) := hln
      rw [hln] at hcll
      clear hln
      have r_b0 := cell_regrown b0
      have r_b1 := cell_regrown b1
      have r_c1 := cell_regrown c1
      go_wp2_with fail
      cases hev : ev
      · rw [hev] at H2
        have hqj : Hid (qj = false) := by unfold Hid; rw [← Hq3.out, hev]
        have hfe : (List.range (j + 1)).filter (insQ xs home) = (List.range j).filter (insQ xs home) := by rw [Hnext.out, hqj.out]; rfl
        have Hown2 := Lib.hid Hown.out
        rw [← hfe] at Hown2
        clear hfe
        clear hev Hown Hq3
        go_wp2_with fail
        refine wp_region_qb (by kernel_rfl) (by kernel_rfl) ?_
        repeat (go_big_quiet_step (first | (with_reducible exact H2.out _ _)))
        refine wpQuiet_nil ?_
        intro w3 B3
        have HO3 := Lib.hid (Hown2.out.keep B3)
        have Q3 := Lib.hid (bot hbel B3)
        clear b0 b1 c1 r_b0 r_b1 r_c1 B3 Hown2 hbel hbw H2
        go_wp2_with fail
        go_roundw
        case rel => exact ⟨j + 1, by omega, by go_num, HO3, Q3.out⟩
        case measure => simp [intOf]; omega
      · rw [hev] at H2
        have hqj : Hid (qj = true) := by unfold Hid; rw [← Hq3.out, hev]
        have Hfn : Hid (castL ((List.range j).filter (insQ xs home)) ++ [(j : Int)] = castL ((List.range (j + 1)).filter (insQ xs home))) := by unfold Hid; rw [Hnext.out, hqj.out, castL_push]; rfl
        clear hev Hq3
        go_wp2_with fail
        refine wp_region_qb (by kernel_rfl) (by kernel_rfl) ?_
        repeat (go_big_quiet_step (first | (with_reducible exact H2.out _ _)))
        refine wpQuiet_nil ?_
        intro w3 B3
        have HO3 := Lib.hid (Hown.out.keep B3)
        have Q3 := Lib.hid (bot hbel B3)
        have hs3 := Q3.out.size
        clear b0 b1 c1 r_b0 r_b1 r_c1 B3 Hown hbel hbw H2
        go_wp2_with (at_builtin; refine wpList_push (by rfl) _ _ _ (by rfl) elt_int3 Tryz.underlying75 (by rfl) (HO3.out.alloc _) ⟨w3.heap.size, 0, none⟩ 1 [.int .i64 j] (j : Int) (by rfl) ⟨rfl, by unfold I64; omega⟩ (news_of w3 #[.int .i64 j] _) (by rw [Hlen.out]; unfold maxLen; omega) (by rw [Hlen.out]; omega) (by simp; omega) (w3.heap.size + 1) (by simp) ?_)
        intro g9 cap9 w9 hown9 hgrow9 hat9 hlt9
        have HB9 := Lib.hid (bgrown (bal Q3.out _) hgrow9 (HO3.out.alloc _) (Nat.le_refl _))
        have Hown9 := Lib.hid hown9
        clear hown9 hgrow9
        rw [Hfn.out] at Hown9
        go_wp2_with fail
        go_roundw
        case rel => exact ⟨j + 1, by omega, by go_num, Hown9, HB9.out⟩
        case measure => simp [intOf]; omega
    case neg =>
      obtain rfl : j = n := by omega
      have hlt' : ¬ (j : Int) < (j : Int) := by omega
      clear hlt
      obtain ⟨F, hF⟩ : ∃ F, F = (List.range j).filter (insQ xs home) := ⟨_, rfl⟩
      rw [← hF] at Hown
      have HR2 : Hid (R = insR (nmL xs) (insQ xs home) xs.length) := HR.out
      have HRp : Hid (R.Perm F) := by unfold Hid; rw [HR2.out, hF, Hnx.out]; exact insR_perm _ _ _
      have HRs : Hid (R.Pairwise fun x y => ltN (nmL xs) x y = true) := by unfold Hid; rw [HR2.out]; exact insR_sorted _ _ _
      have HFm : Hid (∀ y ∈ F, ∃ hy : y < xs.length, xs[y].path.length = h + 1) := fun y hy => by
        rw [hF, List.mem_filter, List.mem_range] at hy
        have hyx : y < xs.length := by have := Hnx.out; omega
        rw [insQ_at hyx] at hy
        simp only [Bool.and_eq_true, decide_eq_true_eq] at hy
        exact ⟨hyx, by rw [← Hh.out]; exact hy.2.1⟩
      have HFl : Hid (F.length ≤ j) := by
        have := List.length_filter_le (insQ xs home) (List.range j)
        rw [List.length_range] at this; unfold Hid; rw [hF]; exact this
      have hcF : (castL F).length = F.length := by unfold castL; rw [List.length_map]
      clear hF HR HR2
      have hst : ∀ (cb : Array Value) (a : Addr) (md : Mode) (W : World), Sem.run Tryz.prog (store a (.func (.func 76) #[] cb) md) W = stored Tryz.prog W a (.func (.func 76) #[] cb) md := fun cb a md W => run_store Tryz.prog W a _ md rfl
      have hsv := Hown.out.slv
      obtain ⟨oA, oc, hvv, _, _⟩ := hsv.val
      rcases Nat.eq_zero_or_pos F.length with hF0 | hF0
      · have hFn : F = [] := List.eq_nil_of_length_eq_zero hF0
        have hRn : Hid (R = []) := by have := HRp.out; rw [hFn] at this; exact this.eq_nil
        rw [hcF, hF0] at hvv
        subst hvv
        have Hsv0 : Hid (∀ (W : World) (T : Nat → Prop), SlV rInt W T (castL []) (.slice oA 0 oc)) := fun W T => by
          have h5 := hsv
          rw [hFn] at h5
          obtain ⟨A', c', g1, g2, g3, g4, _⟩ := h5
          exact ⟨A', c', g1, g2, g3, g4, fun h => absurd h (by simp [castL])⟩
        have Hnone : Hid (∀ (fv : Value) (W : World), Calls Tryz.prog 77 #[.slice oA 0 oc, fv] W fun e w' => e = .returned (.tuple #[]) ∧ w' = W) := fun fv W => Tryz.slices_SortFunc_none (α := Nat) oA oc fv W
        clear hsv Hown HRp HRs HFm HFl hcF hFn hF0
        go_wp2_with fail
        refine (Hnone.out _ _).mono ?_
        rintro e w5 ⟨rfl, rfl⟩
        go_wp2_with fail
        go_ret
        refine ⟨⟨_, rfl, ?_⟩, bal hbw _⟩
        rw [hRn.out]
        exact Hsv0.out _ _
      · obtain ⟨g, cap, hve, hrow⟩ := own_irow Hown.out (by rw [hcF]; exact hF0)
        rw [hcF] at hve
        rw [hve] at hvv ⊢
        have Hrow := Lib.hid hrow
        have hgl := hrow.lt
        have hglo := hrow.lo
        clear hsv Hown hvv hve hrow
        have Hso := fun (W : World) (b9 : Nat) => sortIns_any xs h j c w.heap.size (w.heap.size + 1) b9 b o hc hA w W w0.heap.size g cap F R HX.out
        have HSo := Lib.hid Hso; clear Hso
        have hg0 : w.heap.size ≠ g := by omega
        have hg1 : w.heap.size + 1 ≠ g := by omega
        have hgw : wr.heap.size ≠ g := by omega
        have hs0 := HB0.out.size
        have hxl : xs.length ≤ 9223372036854775807 := by have := Hnx.out; omega
        have hFl2 : F.length < 4611686018427387904 := by have := HFl.out; omega
        have hh63 : h ≤ 9223372036854775807 := by omega
        have hsz := hbel.size
        go_wp2_with fail
        obtain ⟨w5, hw5⟩ : ∃ w5, w5 = wr.alloc (.cells #[.func (.func 76) #[] #[.pointer (some ⟨w.heap.size, 0, none⟩), .pointer (some ⟨w.heap.size + 1, 0, none⟩)]] 134) := ⟨_, rfl⟩
        have HB5 : Hid (Below wr.heap.size wr w5) := by unfold Hid; rw [hw5]; exact bal (Below.refl _ _) _
        have c9 : w5.cell? ⟨wr.heap.size, 0, none⟩ = some (.func (.func 76) #[] #[.pointer (some ⟨w.heap.size, 0, none⟩), .pointer (some ⟨w.heap.size + 1, 0, none⟩)]) := cell_new3 hw5 rfl rfl
        rw [← hw5]
        have d0 := below_cell HB5.out b0 (Nat.lt_of_lt_of_le hz hsz)
        have d1 := below_cell HB5.out b1 (Nat.lt_of_lt_of_le hz1 hsz)
        refine (HSo.out w5 wr.heap.size (bot hbw HB5.out) hs0 d0 d1 c9 hg0 hg1 hgw HFm.out hF0 (Hrow.out.keep HB5.out) HRp.out HRs.out hh63 hxl hFl2).mono ?_
        rintro e w6 ⟨rfl, hsl, hgr⟩
        have HSl := Lib.hid hsl
        have Q6 : Hid (Below w.heap.size w w6) := (bot hbw HB5.out).grown hgr (bot hbw HB5.out).size (fun q hq => by have := Option.some.inj hq; omega)
        clear hsl hgr hw5 d0 d1 c9 b0 b1
        go_wp2_with fail
        go_ret
        exact ⟨⟨_, rfl, HSl.out.more fun b hb _ => Nat.le_trans hs0 hb⟩, Q6.out⟩
end Go.Proofs.YthbnmehbhpakaaaGreatDoor
set_option autoImplicit false
set_option relaxedAutoImplicit false
set_option linter.unusedVariables false
set_option linter.unusedSimpArgs false
namespace Go.Proofs.YthbnmehbhpakaaaGreatDoor
open Go.Rows Go.RowKit Go.Shelf Go.Sort

theorem slv_drop {w : World} {S : Nat → Prop} {l : List Int} {b o n c k : Nat} (h : SlV rInt w S l (.slice (some ⟨b, o, none⟩) n c)) (hk : k ≤ n) : SlV rInt w S (l.drop k) (.slice (some ⟨b, o + k, none⟩) (n - k) (c - k)) := by
  obtain ⟨A', c', h1, h2, h3, h4, h5⟩ := h
  simp only [List.cons.injEq, Value.slice.injEq, and_true] at h1
  obtain ⟨rfl, rfl, rfl⟩ := h1
  refine ⟨some ⟨b, o + k, none⟩, c - k, by rw [List.length_drop], by rw [List.length_drop]; omega, by omega, (fun e => by cases e), fun hn => ?_⟩
  rw [List.length_drop] at hn
  obtain ⟨b', o', he, hs, hb, hr⟩ := h5 (by omega)
  simp only [Option.some.injEq, Addr.mk.injEq, and_true] at he
  obtain ⟨rfl, rfl⟩ := he
  refine ⟨b, o + k, rfl, hs, hb, fun i x hx => ?_⟩
  rw [List.getElem?_drop] at hx
  obtain ⟨cs, q1, q2⟩ := hr (k + i) x hx
  refine ⟨cs, q1, fun j u hu => ?_⟩
  have := q2 j u hu
  simp only [rInt, Nat.mul_one] at this ⊢
  rw [show o + k + i + j = o + (k + i) + j by omega]
  exact this
theorem slv_empty {w : World} {S : Nat → Prop} {A : Option Addr} {c : Nat} (hc : c ≤ maxLen) (hA : A = none → c = 0) : SlV rInt w S [] (.slice A 0 c) := ⟨A, c, rfl, Nat.zero_le _, hc, hA, fun h => absurd h (by simp)⟩
theorem insAt_take {nm : Nat → List UInt8} {l : List Nat} {i k : Nat} (hk : k ≤ l.length) (h1 : ∀ j (hj : j < k), nm (l[j]'(Nat.lt_of_lt_of_le hj hk)) ≤ nm i) (h2 : ∀ h : k < l.length, ¬ nm l[k] ≤ nm i) : insAt nm l i = l.take k ++ i :: l.drop k := by
  unfold insAt
  have : ∀ (l : List Nat) (k : Nat) (hk : k ≤ l.length), (∀ j (hj : j < k), nm (l[j]'(Nat.lt_of_lt_of_le hj hk)) ≤ nm i) → (∀ h : k < l.length, ¬ nm l[k] ≤ nm i) → l.takeWhile (fun j => decide (nm j ≤ nm i)) = l.take k ∧ l.dropWhile (fun j => decide (nm j ≤ nm i)) = l.drop k := by
    intro l
    induction l with
    | nil => intro k hk _ _; simp at hk; subst hk; exact ⟨rfl, rfl⟩
    | cons a l ih =>
      intro k hk h1 h2
      cases k with
      | zero =>
        have := h2 (by simp)
        have hd : decide (nm a ≤ nm i) = false := decide_eq_false (by simpa using this)
        rw [List.takeWhile_cons, List.dropWhile_cons, hd]
        exact ⟨rfl, rfl⟩
      | succ k =>
        have := h1 0 (by omega)
        have hd : decide (nm a ≤ nm i) = true := decide_eq_true (by simpa using this)
        obtain ⟨e1, e2⟩ := ih k (by simpa using hk) (fun j hj => by have := h1 (j + 1) (by omega); simpa using this) (fun h => by have := h2 (by simpa using h); simpa using this)
        rw [List.takeWhile_cons, List.dropWhile_cons, hd]
        simp only [if_true]
        rw [e1, e2]
        exact ⟨rfl, rfl⟩
  obtain ⟨e1, e2⟩ := this l k hk h1 h2
  rw [e1, e2]
theorem insR_next (nm : Nat → List UInt8) (q : Nat → Bool) (k : Nat) : insR nm q (k + 1) = bif q k then insAt nm (insR nm q k) k else insR nm q k := rfl
theorem insR_len (nm : Nat → List UInt8) (q : Nat → Bool) (k : Nat) : (insR nm q k).length ≤ k := by
  rw [(insR_perm nm q k).length_eq]
  have := List.length_filter_le q (List.range k)
  rw [List.length_range] at this; exact this
theorem le_cases (a b : ByteArray) : (a.data.toList ≤ b.data.toList ∧ ((Op.bytesLess a.toList b.toList = true) ∨ (Op.bytesLess a.toList b.toList = false ∧ (a.toList == b.toList) = true))) ∨ (¬ a.data.toList ≤ b.data.toList ∧ Op.bytesLess a.toList b.toList = false ∧ (a.toList == b.toList) = false) := by
  rw [bytesLess_eq, Go.ByteArray.toList_eq, Go.ByteArray.toList_eq]
  by_cases h : a.data.toList < b.data.toList
  · exact .inl ⟨List.le_iff_lt_or_eq.2 (.inl h), .inl (decide_eq_true h)⟩
  · by_cases e : a.data.toList = b.data.toList
    · exact .inl ⟨List.le_iff_lt_or_eq.2 (.inr e), .inr ⟨decide_eq_false h, by simpa using e⟩⟩
    · refine .inr ⟨fun hle => ?_, decide_eq_false h, by simpa using e⟩
      rcases List.le_iff_lt_or_eq.1 hle with h' | h'
      · exact h h'
      · exact e h'

set_option maxHeartbeats 3200000 in
set_option maxRecDepth 100000 in
theorem refInside_any (A : Option Addr) (n c : Nat) (xs : List Dir) (x : Int) (w : World) (S : Nat → Prop) (hx : SlV rDir w S xs (.slice A n c)) (hlen : ∀ d ∈ xs, d.path.length * 32 ≤ 140737488355328) (hnb : xs.length ≤ 1048576) :
    Calls Tryz.prog 36 #[.agg #[.slice A n c], .int .i64 x] w fun e w' => (∃ v, e = .returned v ∧ SlV rInt w' (fun b => w.heap.size ≤ b) (castL (insideI xs x)) v) ∧ Below w.heap.size w w' := by
  have hnx := hx.n_eq
  have hcx := hx.cap_le
  unfold maxLen at hcx
  by_cases h0 : x < 0
  · have hd : decide (x < 0) = true := decide_eq_true h0
    have He : Hid (insideI xs x = []) := insideI_lo h0
    clear hx hnx hcx hlen
    generalize insideI xs x = R at *
    go_enter Tryz.func36, Tryz.ntmps36
    go_wp2_with fail
    go_ret
    refine ⟨⟨_, rfl, ?_⟩, bal (Below.refl _ _) _⟩
    rw [He.out]; exact SlV.nil_ _ _ _
  have hd : decide (x < 0) = false := decide_eq_false h0
  by_cases h1 : (n : Int) ≤ x
  · have hd1 : decide ((n : Int) ≤ x) = true := decide_eq_true h1
    have He : Hid (insideI xs x = []) := insideI_hi (by omega)
    clear hx hnx hcx hlen
    generalize insideI xs x = R at *
    go_enter Tryz.func36, Tryz.ntmps36
    go_wp2_with fail
    go_ret
    refine ⟨⟨_, rfl, ?_⟩, bal (Below.refl _ _) _⟩
    rw [He.out]; exact SlV.nil_ _ _ _
  have hd1 : decide ((n : Int) ≤ x) = false := decide_eq_false h1
  obtain ⟨k, rfl⟩ : ∃ k : Nat, x = (k : Int) := ⟨x.toNat, by omega⟩
  have hk : k < xs.length := by omega
  have HR : Hid (insideI xs (k : Int) = insR (nmL xs) (insQ xs xs[k].path) xs.length) := insideI_at hk
  generalize insideI xs (k : Int) = R at *
  have hkn : (k : Int) < (n : Int) := by omega
  have hk0 : (0 : Int) ≤ (k : Int) := by omega
  have hn63 : n ≤ 1048576 := by omega
  have HX := Lib.hid (hx.more (S' := fun b => b < w.heap.size) fun b _ h => h)
  have hlk := hlen xs[k] (List.getElem_mem hk)
  obtain ⟨b, o, cs, rfl, _, hb1, hh, hcell⟩ := hx.elem (List.getElem?_eq_getElem hk)
  obtain ⟨s0, s1, s2, s3, rfl, hp, _, _, _, _, _, _, _, _⟩ := hh
  obtain ⟨hA, hc, rfl, hpl, hpm⟩ := hp.val
  unfold maxLen at hpm
  have c0 := hcell 0 _ rfl
  have Hc0 := Lib.hid c0
  simp only [rDir, Nat.add_zero] at c0
  have HP := Lib.hid (hp.more (S' := fun b => b < w.heap.size) fun b _ h => h)
  have Hnx := Lib.hid hnx
  clear hcell hp hx hlen hcx hnx hnb
  generalize xs[k].path = home at *
  generalize hl0 : home.length = h at *
  have Hh := Lib.hid hl0; clear hl0
  generalize hnm : nmL xs = nm at *
  have Hnm := Lib.hid hnm; clear hnm
  go_enter Tryz.func36, Tryz.ntmps36
  go_wp2_with fail
  obtain ⟨w0, hw0⟩ : ∃ w0, w0 = w.alloc (.cells #[.slice (some ⟨b, o, none⟩) n c] 30) := ⟨_, rfl⟩
  have hz : w.heap.size < w0.heap.size := by rw [hw0]; simp [go_sem]
  have HB0 : Hid (Below w.heap.size w w0) := by unfold Hid; rw [hw0]; exact bal (Below.refl _ _) _
  have a0 : w0.cell? ⟨w.heap.size, 0, none⟩ = some (.slice (some ⟨b, o, none⟩) n c) := by rw [hw0]; simp [go_sem]
  rw [← hw0]
  clear hw0
  have HA := Lib.hid a0
  clear a0 c0
  go_loopw [6, 7] (fun v i wr => ∃ j : Nat, j ≤ n ∧ i = .int .i64 j ∧ Hid (SlV rInt wr (fun b => w0.heap.size ≤ b) (castL (insR nm (insQ xs home) j)) v) ∧ Hid (insR nm (insQ xs home) j = [] → v = .slice none 0 0) ∧ Below w0.heap.size w0 wr) (fun _ i _ => n - (intOf i).toNat)
  case atStart => exact ⟨0, Nat.zero_le _, rfl, SlV.nil_ _ _ _, fun _ => rfl, Below.refl _ _⟩
  case round =>
    obtain ⟨j, hj, rfl, Hsl, Hem, hbel⟩ := hrel
    have b0 := below_cell hbel HA.out hz
    have hbw := bot HB0.out hbel
    by_cases hlt : j < n
    case neg =>
      obtain rfl : j = n := by omega
      have hlt' : ¬ (j : Int) < (j : Int) := by omega
      have HRn : Hid (R = insR nm (insQ xs home) j) := by unfold Hid; rw [HR.out, Hnx.out]
      go_wp2_with fail
      go_ret
      refine ⟨⟨_, rfl, ?_⟩, hbw⟩
      rw [HRn.out]
      exact Hsl.out.more fun b hb _ => Nat.le_trans HB0.out.size hb
    have hjx : j < xs.length := by have := Hnx.out; omega
    have hjI : (j : Int) < (n : Int) := by omega
    have hj0 : (0 : Int) ≤ (j : Int) := by omega
    obtain ⟨b2, o2, cs2, hAe2, _, hb2, hh2, hcell2⟩ := HX.out.elem (List.getElem?_eq_getElem hjx)
    obtain ⟨z0, z1, z2, z3, rfl, hp2, _, _, _, _, _, _, _, _⟩ := hh2
    obtain ⟨fA, fc, rfl, hfl, hfm⟩ := hp2.val
    unfold maxLen at hfm
    simp only [Option.some.injEq, Addr.mk.injEq] at hAe2
    obtain ⟨rfl, rfl, _⟩ := hAe2
    have c1 := below_cell hbw (hcell2 0 _ rfl) hb2
    simp only [rDir, Nat.add_zero] at c1
    have Hq := Lib.hid (insQ_at (home := home) hjx)
    have HP2 := Lib.hid hp2
    have Hnext := Lib.hid (insR_next nm (insQ xs home) j)
    have Hnmj : Hid (nm j = (lastN xs[j].path).data.toList) := by unfold Hid; rw [← Hnm.out]; exact nmL_at hjx
    have hll := insR_len nm (insQ xs home) j
    have Hmem : Hid (∀ y ∈ insR nm (insQ xs home) j, y < j ∧ insQ xs home y = true) := fun y hy => insR_mem hy
    clear hcell2 hp2
    generalize xs[j].path = pt at *
    generalize insQ xs home j = qj at *
    rw [Hh.out] at Hq
    generalize hl2 : pt.length = l2 at *
    by_cases hlh : l2 = h + 1
    case neg =>
      have hlb : ((l2 : Int) != (h : Int) + 1) = true := by simp; omega
      have hqj : Hid (qj = false) := by unfold Hid; rw [Hq.out, decide_eq_false hlh]; rfl
      have hfe : insR nm (insQ xs home) (j + 1) = insR nm (insQ xs home) j := by rw [Hnext.out, hqj.out]; rfl
      have Hsl2 := Lib.hid Hsl.out
      have Hem2 := Lib.hid Hem.out
      rw [← hfe] at Hsl2 Hem2
      have hw9 : IntKind.i64.wrap ((h : Int) + 1) = (h : Int) + 1 := IntWalk.i64_in _ ⟨by omega, by omega⟩
      clear hfe hlh hl2 Hsl Hem
      go_wp2_with fail
      go_roundw
      case rel => exact ⟨j + 1, by omega, by go_num, Hsl2, Hem2, hbel⟩
      case measure => simp [intOf]; omega
    have H2 : Hid (∀ d os, Calls Tryz.prog 54 #[.slice fA h fc, .slice hA h hc] (grow (redrawn wr d) os) fun e w'' => e = .returned (.bool (eqB (pt.take h) home)) ∧ ∃ p : Regrown, w'' = grow (redrawn wr p.d) p.os) :=
      qcall (w := wr) (fun W hW => refPath_any _ _ _ _ _ _ (pt.take h) home W _ _ ((SlV.take HP2.out (by omega)).belowSize (bot hbw hW)) (HP.out.belowSize (bot hbw hW)))
    rw [hlh] at c1 hfl
    have hlb : (((h + 1 : Nat) : Int) != (h : Int) + 1) = false := by simp
    have hlc : (((h : Int) + 1) != (h : Int) + 1) = false := by simp
    have hw9 : IntKind.i64.wrap ((h : Int) + 1) = (h : Int) + 1 := IntWalk.i64_in _ ⟨by omega, by omega⟩
    have hhc : h ≤ fc := by omega
    have hh0 : (0 : Int) ≤ (h : Int) := by omega
    have hptl : pt.length = h + 1 := by omega
    obtain ⟨g2, u2, rfl, hg2, hlc2, _⟩ := last_cell2 HP2.out hptl
    have HL2 := Lib.hid hlc2
    have Hq2 : Hid (qj = eqB (pt.take h) home) := by unfold Hid; rw [Hq.out, decide_eq_true hlh, Bool.true_and]
    have ch := below_cell hbw Hc0.out hb1
    simp only [rDir, Nat.add_zero] at ch
    clear hl2 hlh Hq hlc2 hptl
    generalize eqB (pt.take h) home = ev at *
    have Hq3 : Hid (ev = qj) := Hq2.out.symm
    clear Hq2
    obtain ⟨oA, oc, hvv, hvl, hvm⟩ := Hsl.out.val
    unfold maxLen at hvm
    go_wp2_with fail
    cases hev : ev
    · rw [hev] at H2
      have hqj : Hid (qj = false) := by unfold Hid; rw [← Hq3.out, hev]
      have hfe : insR nm (insQ xs home) (j + 1) = insR nm (insQ xs home) j := by rw [Hnext.out, hqj.out]; rfl
      have Hsl2 := Lib.hid Hsl.out
      have Hem2 := Lib.hid Hem.out
      rw [← hfe] at Hsl2 Hem2
      clear hfe hev Hq3 Hsl hvv hvl Hem
      have r_b0 := cell_regrown b0
      have r_ch := cell_regrown ch
      have r_c1 := cell_regrown c1
      go_wp2_with fail
      refine wp_region_qb (by kernel_rfl) (by kernel_rfl) ?_
      repeat (go_big_quiet_step (first | (with_reducible exact H2.out _ _)))
      refine wpQuiet_nil ?_
      intro w3 B3
      have HS3 := Lib.hid (Hsl2.out.belowSize B3)
      have Q3 := Lib.hid (bot hbel B3)
      clear b0 ch c1 r_b0 r_ch r_c1 B3 Hsl2 hbel hbw H2
      go_wp2_with fail
      go_roundw
      case rel => exact ⟨j + 1, by omega, by go_num, HS3, Hem2, Q3.out⟩
      case measure => simp [intOf]; omega
    · rw [hev] at H2
      have hqj : Hid (qj = true) := by unfold Hid; rw [← Hq3.out, hev]
      have hfe : insR nm (insQ xs home) (j + 1) = insAt nm (insR nm (insQ xs home) j) j := by rw [Hnext.out, hqj.out]; rfl
      have Hfe := Lib.hid hfe
      clear hfe hev Hq3
      generalize insR nm (insQ xs home) j = l at *
      have hcl : (castL l).length = l.length := by unfold castL; rw [List.length_map]
      rw [hcl] at hvv hvl
      rw [hvv] at Hem
      subst hvv
      have r_b0 := cell_regrown b0
      have r_ch := cell_regrown ch
      have r_c1 := cell_regrown c1
      go_wp2_with fail
      refine wp_region_qb (by kernel_rfl) (by kernel_rfl) ?_
      repeat (go_big_quiet_step (first | (with_reducible exact H2.out _ _)))
      refine wpQuiet_nil ?_
      intro w3 B3
      have HS3 := Lib.hid (Hsl.out.belowSize B3)
      have Q3 := Lib.hid (bot hbel B3)
      clear b0 ch c1 r_b0 r_ch r_c1 B3 Hsl hbel hbw H2
      generalize hll2 : l.length = ln at *
      have Hll := Lib.hid hll2; clear hll2
      have Hcl := Lib.hid hcl; clear hcl
      go_wp2_with fail
      go_loopw [10] (fun i wi => ∃ p : Nat, p ≤ ln ∧ i = .int .i64 p ∧ Hid (∀ q (hq : q < l.length), q < p → nm l[q] ≤ nm j) ∧ Below w3.heap.size w3 wi) (fun i _ => ln - (intOf i).toNat)
      case atStart => exact ⟨0, Nat.zero_le _, rfl, fun q hq h => absurd h (Nat.not_lt_zero _), Below.refl _ _⟩
      case round =>
        obtain ⟨p, hp, rfl, Hle, hb3⟩ := hrel
        have b0 := below_cell (bot Q3.out hb3) HA.out hz
        have hbw := bot HB0.out (bot Q3.out hb3)
        have hp0 : (0 : Int) ≤ (p : Int) := by omega
        have c3 := below_cell hbw HL2.out hg2
        have HSw := Lib.hid (HS3.out.belowSize hb3)
        by_cases hC : ∃ h : p < l.length, nm l[p] ≤ nm j
        · obtain ⟨hpl, hle⟩ := hC
          have hpI : (p : Int) < (ln : Int) := by have := Hll.out; omega
          obtain ⟨hyj, hyq⟩ := Hmem.out _ (List.getElem_mem hpl)
          obtain ⟨yb, yo, ycs, rfl, _, _, ⟨rfl, _⟩, hyc⟩ := HSw.out.elem (castL_get (List.getElem?_eq_getElem hpl))
          have y0 := hyc 0 _ rfl
          simp only [rInt, Nat.add_zero, Nat.mul_one] at y0
          have Hle2 : Hid (∀ q (hq : q < l.length), q < p + 1 → nm l[q] ≤ nm j) := fun q hq h => by
            by_cases e : q = p
            · subst e; exact hle
            · exact Hle.out q hq (by omega)
          clear hyc Hle
          generalize l[p] = y at *
          have hyx : y < xs.length := by have := Hnx.out; omega
          have hyI : (y : Int) < (n : Int) := by omega
          have hyO : (0 : Int) ≤ (y : Int) := by omega
          rw [insQ_at hyx, Bool.and_eq_true, decide_eq_true_eq, Hh.out] at hyq
          rw [Hnmj.out, ← Hnm.out, nmL_at hyx] at hle
          obtain ⟨b5, o5, cs5, hAe5, _, hb5, hh5, hcell5⟩ := HX.out.elem (List.getElem?_eq_getElem hyx)
          obtain ⟨s5, s6, s7, s8, rfl, hp5, _, _, _, _, _, _, _, _⟩ := hh5
          obtain ⟨eA, ec, rfl, _, _⟩ := hp5.val
          simp only [Option.some.injEq, Addr.mk.injEq] at hAe5
          obtain ⟨rfl, rfl, _⟩ := hAe5
          obtain ⟨g5, u5, rfl, hg5, hlc5, _⟩ := last_cell2 hp5 hyq.1
          have d1 := below_cell hbw (hcell5 0 _ rfl) hb5
          have d2 := below_cell hbw hlc5 hg5
          simp only [rDir, Nat.add_zero] at d1
          rw [hyq.1] at d1
          clear hcell5 hp5 hlc5 hyq
          generalize lastN xs[y].path = sy at *
          generalize lastN pt = sj at *
          have hhI : (h : Int) < (h : Int) + 1 := by omega
          have hhJ : (h : Int) < ((h + 1 : Nat) : Int) := by omega
          have hcc := le_cases sy sj
          rcases hcc with ⟨_, e1 | ⟨e1, e2⟩⟩ | ⟨hn, _, _⟩
          · clear hle
            have r_b0 := cell_regrown b0
            have r_c3 := cell_regrown c3
            have r_y0 := cell_regrown y0
            have r_d1 := cell_regrown d1
            have r_d2 := cell_regrown d2
            go_wp2_with fail
            go_wp2_with fail
            refine wp_region_qb (by kernel_rfl) (by kernel_rfl) ?_
            repeat (go_big_quiet_step (first | fail))
            refine wpQuiet_nil ?_
            intro w4 B4
            have Q4 := Lib.hid (bot hb3 B4)
            clear b0 c3 y0 d1 d2 r_b0 r_c3 r_y0 r_d1 r_d2 B4 hb3 hbw e1
            go_wp2_with fail
            go_roundw
            case rel => exact ⟨p + 1, by omega, by go_num, Hle2, Q4.out⟩
            case measure => simp [intOf]; omega
          · clear hle
            have r_b0 := cell_regrown b0
            have r_c3 := cell_regrown c3
            have r_y0 := cell_regrown y0
            have r_d1 := cell_regrown d1
            have r_d2 := cell_regrown d2
            go_wp2_with fail
            go_wp2_with fail
            refine wp_region_qb (by kernel_rfl) (by kernel_rfl) ?_
            repeat (go_big_quiet_step (first | fail))
            refine wpQuiet_nil ?_
            intro w4 B4
            have Q4 := Lib.hid (bot hb3 B4)
            clear b0 c3 y0 d1 d2 r_b0 r_c3 r_y0 r_d1 r_d2 B4 hb3 hbw e1 e2
            go_wp2_with fail
            go_roundw
            case rel => exact ⟨p + 1, by omega, by go_num, Hle2, Q4.out⟩
            case measure => simp [intOf]; omega
          · exact absurd hle hn
        have Hins : Hid (insAt nm l j = l.take p ++ j :: l.drop p) := insAt_take (by have := Hll.out; omega) (fun q hq => Hle.out q _ hq) (fun h hle => hC ⟨h, hle⟩)
        clear Hle
        have HS4 : Hid (∀ w4, Below wr.heap.size wr w4 → SlV rInt w4 (fun b => w0.heap.size ≤ b) (castL l) (.slice oA ln oc)) := fun w4 h => HSw.out.belowSize h
        refine dite (p < l.length) (fun hpl => ?_) (fun hpl => ?_)
        focus
          have hpI : (p : Int) < (ln : Int) := by have := Hll.out; omega
          obtain ⟨hyj, hyq⟩ := Hmem.out _ (List.getElem_mem hpl)
          obtain ⟨yb, yo, ycs, hoA, _, _, ⟨rfl, _⟩, hyc⟩ := HSw.out.elem (castL_get (List.getElem?_eq_getElem hpl))
          have y0 := hyc 0 _ rfl
          simp only [rInt, Nat.add_zero, Nat.mul_one] at y0
          have hle : ¬ nm l[p] ≤ nm j := fun h => hC ⟨hpl, h⟩
          clear hyc hC
          generalize l[p] = y at *
          have hyx : y < xs.length := by have := Hnx.out; omega
          have hyI : (y : Int) < (n : Int) := by omega
          have hyO : (0 : Int) ≤ (y : Int) := by omega
          rw [insQ_at hyx, Bool.and_eq_true, decide_eq_true_eq, Hh.out] at hyq
          rw [Hnmj.out, ← Hnm.out, nmL_at hyx] at hle
          obtain ⟨b5, o5, cs5, hAe5, _, hb5, hh5, hcell5⟩ := HX.out.elem (List.getElem?_eq_getElem hyx)
          obtain ⟨s5, s6, s7, s8, rfl, hp5, _, _, _, _, _, _, _, _⟩ := hh5
          obtain ⟨eA, ec, rfl, _, _⟩ := hp5.val
          simp only [Option.some.injEq, Addr.mk.injEq] at hAe5
          obtain ⟨rfl, rfl, _⟩ := hAe5
          obtain ⟨g5, u5, rfl, hg5, hlc5, _⟩ := last_cell2 hp5 hyq.1
          have d1 := below_cell hbw (hcell5 0 _ rfl) hb5
          have d2 := below_cell hbw hlc5 hg5
          simp only [rDir, Nat.add_zero] at d1
          rw [hyq.1] at d1
          clear hcell5 hp5 hlc5 hyq
          generalize lastN xs[y].path = sy at *
          generalize lastN pt = sj at *
          have hhI : (h : Int) < (h : Int) + 1 := by omega
          have hhJ : (h : Int) < ((h + 1 : Nat) : Int) := by omega
          have hcc := le_cases sy sj
          have hbb : Op.bytesLess sy.toList sj.toList = false ∧ (sy.toList == sj.toList) = false := by
            rcases hcc with ⟨h, _⟩ | ⟨_, h1, h2⟩
            · exact absurd h hle
            · exact ⟨h1, h2⟩
          obtain ⟨e1, e2⟩ := hbb
          rw [hoA]
          clear hle hcc
          have r_b0 := cell_regrown b0
          have r_c3 := cell_regrown c3
          have r_y0 := cell_regrown y0
          have r_d1 := cell_regrown d1
          have r_d2 := cell_regrown d2
          go_wp2_with fail
          go_wp2_with fail
          refine wp_region_qb (by kernel_rfl) (by kernel_rfl) ?_
          repeat (go_big_quiet_step (first | fail))
          refine wpQuiet_nil ?_
          intro w4 B4
          have Q4 := Lib.hid B4
          clear b0 c3 y0 d1 d2 r_b0 r_c3 r_y0 r_d1 r_d2 B4 e1 e2
          rw [← hoA]
          clear hoA
        rotate_left
        focus
          have hpe : p = ln := by have := Hll.out; omega
          have hpI : ¬ (p : Int) < (ln : Int) := by omega
          have hpd : decide ((p : Int) < (ln : Int)) = false := decide_eq_false hpI
          have hpN : ¬ p < ln := by omega
          have hpdn : decide (p < ln) = false := decide_eq_false hpN
          clear hpe hC
          have r_b0 := cell_regrown b0
          go_wp2_with fail
          go_wp2_with fail
          refine wp_region_qb (by kernel_rfl) (by kernel_rfl) ?_
          repeat (go_big_quiet_step (first | fail))
          refine wpQuiet_nil ?_
          intro w4 B4
          have Q4 := Lib.hid B4
          clear b0 r_b0 B4
        all_goals
          have hcl1 : ((castL l).take p).length = p := by rw [List.length_take, Hcl.out]; omega
          have Hlen : Hid (((castL l).take p).length = p) := hcl1
          have Hmin : Hid (min p (castL l).length = p) := by unfold Hid; rw [Hcl.out]; omega
          have hpo : p ≤ oc := by omega
          have hpb : p ≤ 1048576 := by have := Hll.out; omega
          have HV4 := Lib.hid (HS4.out w4 Q4.out)
          have HT1 : Hid (SlV rInt w4 (fun b => b < w4.heap.size) ((castL l).take p) (.slice oA p oc)) := (SlV.take (HV4.out.more (S' := fun b => b < w4.heap.size) fun b _ h => h) (by rw [Hcl.out]; exact hp))
          have hw0s : w0.heap.size ≤ w4.heap.size := (bot (bot Q3.out hb3) Q4.out).size
          clear hcl1
          go_wp2_with (at_builtin; refine wpList_extend (by rfl) _ _ _ (by rfl) elt_int3 Tryz.underlying75 (by rfl) (Own.nil_ rInt w4 w4.heap.size 3 (S := fun _ => False) (fun b h => h.elim)) (fun b => b < w4.heap.size) ((castL l).take p) _ _ _ (by rfl) HT1.out (by intro b hb he; simp [Value.ownBlock] at he) (by rw [Hlen.out]; simp [maxLen]; omega) (by rw [Hlen.out]; simp; omega) (by simp) ?_)
          intro v5 w5 hown5 hgrow5 hat5
          have HB5 : Hid (Below w4.heap.size w4 w5) := (Below.refl _ _).grown hgrow5 (Nat.le_refl _) (fun k hk => by simp [Value.ownBlock] at hk)
          have Hown5 := Lib.hid hown5
          have hw5 := HB5.out.size
          clear hown5 hgrow5 hat5
          go_wp2_with (at_builtin; refine wpList_push (by rfl) _ _ _ (by rfl) elt_int3 Tryz.underlying75 (by rfl) (Hown5.out.alloc _) ⟨w5.heap.size, 0, none⟩ 1 [.int .i64 j] (j : Int) (by rfl) ⟨rfl, by unfold I64; omega⟩ (news_of w5 #[.int .i64 j] _) (by rw [Hlen.out]; unfold maxLen; omega) (by rw [Hlen.out]; omega) (by simp; omega) (w5.heap.size + 1) (by simp) ?_)
          intro g9 cap9 w9 hown9 hgrow9 hat9 hlt9
          have HB9 := Lib.hid (bgrown (bal HB5.out _) hgrow9 (Hown5.out.alloc _) (Nat.le_refl _))
          have Hown9 := Lib.hid hown9
          clear hown9 hgrow9
          have hown9l : Hid (((castL l).take p ++ [(j : Int)]).length = p + 1) := by unfold Hid; rw [List.length_append, Hlen.out]; rfl
          have hdl : Hid (((castL l).drop p).length = ln - p) := by unfold Hid; rw [List.length_drop, Hcl.out]
          have HV9 : Hid (SlV rInt w9 (fun b => b < w4.heap.size) (castL l) (.slice oA ln oc)) := (HV4.out.more (S' := fun b => b < w4.heap.size) fun b _ h => h).belowSize HB9.out
          have hlx : Hid ((castL l).take p ++ (j : Int) :: (castL l).drop p = castL (insAt nm l j)) := by
            unfold Hid; rw [Hins.out]; unfold castL; rw [List.map_append, List.map_cons, List.map_take, List.map_drop]
          have hI : Hid (∀ y ∈ castL (insAt nm l j), I64 y) := fun y hy => by
            unfold castL at hy
            rw [List.mem_map] at hy
            obtain ⟨z, hz1, rfl⟩ := hy
            have : z ∈ l ++ [j] := (insAt_perm nm l j).mem_iff.1 hz1
            rw [List.mem_append, List.mem_singleton] at this
            unfold I64
            rcases this with h | h
            · have := (Hmem.out z h).1; omega
            · omega
          have hlen3 : Hid ((castL (insAt nm l j)).length = ln + 1) := by
            unfold Hid castL; rw [List.length_map, (insAt_perm nm l j).length_eq, List.length_append, Hll.out]; rfl
          have hw9 := HB9.out.size
          have HB03 := Lib.hid (bot (bot Q3.out hb3) Q4.out)
          have hlb9 := Lib.hid Hown9.out.lt
          clear Hown5 HB5 HT1 HV4 HS4 hw5
          cases oA with
          | none =>
            obtain ⟨hl0, rfl⟩ := HV9.out.none_
            have hln0 : ln = 0 := by rw [← Hcl.out, hl0]; rfl
            have hp0' : p = 0 := by omega
            have HT3 : Hid (SlV rInt w9 (fun b => b < w4.heap.size) ((castL l).drop p) (.slice none 0 0)) := by unfold Hid; rw [hl0, List.drop_nil]; exact SlV.nil_ _ _ _
            have HD0 : Hid ((castL l).drop p = []) := by unfold Hid; rw [hl0, List.drop_nil]
            have HlxE : Hid ((castL l).take p ++ [(j : Int)] = castL (insAt nm l j)) := by unfold Hid; rw [← hlx.out, HD0.out]
            subst hln0
            subst hp0'
            clear hl0
            have hown6 := Hown9.out
            rw [HlxE.out] at hown6
            obtain ⟨g6, cap6, hv6, hrow6⟩ := own_irow hown6 (by rw [hlen3.out]; omega)
            have hsl6 := hrow6.slv hI.out
            rw [← hv6] at hsl6
            have hcap9 := hrow6.le
            simp only [Value.slice.injEq] at hv6
            rw [← hv6.2.1, ← hv6.2.2] at hcap9
            simp only [Hlen.out, Hmin.out] at hcap9 hsl6 ⊢
            have HS6 : Hid (SlV rInt w9 (fun b => w0.heap.size ≤ b) (castL (insR nm (insQ xs home) (j + 1))) _) := Lib.hid (by rw [Hfe.out]; exact hsl6.more fun b hb _ => Nat.le_trans hw0s hb)
            have Hnz : Hid (insR nm (insQ xs home) (j + 1) ≠ []) := fun h => by
              rw [Hfe.out] at h
              have := hlen3.out
              rw [h] at this
              simp [castL] at this
            have Q6 := HB9
            have Q7 := Lib.hid (bot HB03.out Q6.out)
            clear hown6 hrow6 hsl6 hv6 HT3
            go_wp2_with fail
            go_roundw
            case rel => exact ⟨j + 1, by omega, by go_num, HS6, fun h => absurd h Hnz.out, Q7.out⟩
            case measure => simp [intOf]; omega
          | some ad =>
            have hlp : 0 < l.length := by
              rcases Nat.eq_zero_or_pos l.length with h | h
              · have := Hem.out (List.eq_nil_of_length_eq_zero h)
                simp at this
              · exact h
            obtain ⟨ob, oo, ocs, hoe, _, _, _, _⟩ := HV9.out.elem (i := 0) (castL_get (List.getElem?_eq_getElem hlp))
            simp only [Option.some.injEq] at hoe
            subst hoe
            have HTd := Lib.hid (slv_drop HV9.out hp)
            refine dite (oc = p) (fun hcp => ?_) (fun hcp => ?_)
            · have hlnp : ln = p := by omega
              have HT3 : Hid (SlV rInt w9 (fun b => b < w4.heap.size) ((castL l).drop p) (.slice (some ⟨ob, oo, none⟩) 0 0)) := by
                unfold Hid
                rw [List.drop_eq_nil_of_le (by rw [Hcl.out]; omega)]
                exact slv_empty (by unfold maxLen; omega) (fun e => by cases e)
              have HD0 : Hid ((castL l).drop p = []) := by unfold Hid; rw [List.drop_eq_nil_of_le (by rw [Hcl.out]; omega)]
              have HlxE : Hid ((castL l).take p ++ [(j : Int)] = castL (insAt nm l j)) := by unfold Hid; rw [← hlx.out, HD0.out]
              subst hcp
              subst hlnp
              clear HTd
              have hown6 := Hown9.out
              rw [HlxE.out] at hown6
              obtain ⟨g6, cap6, hv6, hrow6⟩ := own_irow hown6 (by rw [hlen3.out]; omega)
              have hsl6 := hrow6.slv hI.out
              rw [← hv6] at hsl6
              have hcap9 := hrow6.le
              simp only [Value.slice.injEq] at hv6
              rw [← hv6.2.1, ← hv6.2.2] at hcap9
              simp only [Hlen.out, Hmin.out] at hcap9 hsl6 ⊢
              have HS6 : Hid (SlV rInt w9 (fun b => w0.heap.size ≤ b) (castL (insR nm (insQ xs home) (j + 1))) _) := Lib.hid (by rw [Hfe.out]; exact hsl6.more fun b hb _ => Nat.le_trans hw0s hb)
              have Hnz : Hid (insR nm (insQ xs home) (j + 1) ≠ []) := fun h => by
                rw [Hfe.out] at h
                have := hlen3.out
                rw [h] at this
                simp [castL] at this
              have Q6 := HB9
              have Q7 := Lib.hid (bot HB03.out Q6.out)
              clear hown6 hrow6 hsl6 hv6 HT3
              go_wp2_with fail
              go_roundw
              case rel => exact ⟨j + 1, by omega, by go_num, HS6, fun h => absurd h Hnz.out, Q7.out⟩
              case measure => simp [intOf]; omega
            · have hcp' : ¬ p = oc := fun e => hcp e.symm
              have HT3 := HTd
              clear HTd
              go_wp2_with (at_builtin; refine wpList_extend (by rfl) _ _ _ (by rfl) elt_int3 Tryz.underlying75 (by rfl) Hown9.out (fun b => b < w4.heap.size) ((castL l).drop p) _ _ _ (by rfl) HT3.out (by intro b hb he; have := (hlb9.out b he).1; omega) (by rw [hown9l.out, hdl.out]; unfold maxLen; omega) (by rw [hown9l.out, hdl.out]; omega) hw9 ?_)
              intro v6 w6 hown6 hgrow6 hat6
              have HB6 := Lib.hid (bgrown HB9.out hgrow6 Hown9.out (Nat.le_refl _))
              rw [hlx.out] at hown6
              obtain ⟨g6, cap6, hv6, hrow6⟩ := own_irow hown6 (by rw [hlen3.out]; omega)
              have hsl6 := hrow6.slv hI.out
              rw [← hv6] at hsl6
              have HS6 : Hid (SlV rInt w6 (fun b => w0.heap.size ≤ b) (castL (insR nm (insQ xs home) (j + 1))) v6) := by unfold Hid; rw [Hfe.out]; exact hsl6.more fun b hb _ => Nat.le_trans hw0s hb
              have Hem6 : Hid (insR nm (insQ xs home) (j + 1) = [] → v6 = .slice none 0 0) := fun h => by
                exfalso
                rw [Hfe.out] at h
                have := hlen3.out
                rw [h] at this
                simp [castL] at this
              have Q6 := Lib.hid (bot HB03.out HB6.out)
              clear hown6 hgrow6 hat6 hrow6 hsl6 hv6
              go_wp2_with fail
              go_roundw
              case rel => exact ⟨j + 1, by omega, by go_num, HS6, Hem6, Q6.out⟩
              case measure => simp [intOf]; omega
end Go.Proofs.YthbnmehbhpakaaaGreatDoor
