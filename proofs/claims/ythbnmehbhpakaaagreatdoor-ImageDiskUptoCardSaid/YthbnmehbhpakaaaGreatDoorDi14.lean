/-
  tree.Inside: what stands in a directory's modules, by names. The document's Inside: each is put at its place.
  tree.Check: may a tree be?
  What a search finds; what a tree that may be has: the plain laws.
-/
import Derived.Test.YthbnmehbhpakaaaGreatDoorDi13
import Derived.Test.YthbnmehbhpakaaaGreatDoorDi12
import Derived.Lib.Hide
set_option autoImplicit false
set_option relaxedAutoImplicit false
set_option linter.unusedVariables false
set_option linter.unusedSimpArgs false
namespace Go.Proofs.YthbnmehbhpakaaaGreatDoor
open Go.Rows Go.RowKit Go.Shelf Go.Sort

theorem elt_int3 : Elt Tryz.prog 3 1 8 := Elt.mk' (z := .int .i64 0) (by kernel_rfl) rfl (by decide)
theorem cell_new3 {W W1 : World} {cs : Array Value} {t : TypeId} (h : W1 = W.alloc (.cells cs t)) {n : Nat} (hn : n = W.heap.size) {j : Nat} {v : Value} (hv : cs[j]? = some v) : W1.cell? ⟨n, j, none⟩ = some v := by
  subst h; subst hn
  exact (World.cell?_alloc_new W cs t j).trans hv

noncomputable def insQ (xs : List Dir) (home : List ByteArray) (i : Nat) : Bool := match xs[i]? with | some d => decide (d.path.length = home.length + 1) && eqB (d.path.take home.length) home | none => false
noncomputable def insideL (xs : List Dir) (a : Nat) : List Nat := match xs[a]? with | some d => insR (nmL xs) (insQ xs d.path) xs.length | none => []
noncomputable def insideI (xs : List Dir) (x : Int) : List Nat := if 0 ≤ x then insideL xs x.toNat else []
theorem insQ_at {xs : List Dir} {home : List ByteArray} {i : Nat} (h : i < xs.length) : insQ xs home i = (decide (xs[i].path.length = home.length + 1) && eqB (xs[i].path.take home.length) home) := by
  unfold insQ; rw [List.getElem?_eq_getElem h]
theorem insideI_lo {xs : List Dir} {x : Int} (h : x < 0) : insideI xs x = [] := by unfold insideI; rw [if_neg (by omega)]
theorem insideI_hi {xs : List Dir} {x : Int} (h : (xs.length : Int) ≤ x) : insideI xs x = [] := by
  unfold insideI insideL
  split
  · rw [List.getElem?_eq_none (by omega)]
  · rfl
theorem insideI_at {xs : List Dir} {k : Nat} (h : k < xs.length) : insideI xs (k : Int) = insR (nmL xs) (insQ xs xs[k].path) xs.length := by
  unfold insideI insideL
  rw [if_pos (by omega), Int.toNat_natCast, List.getElem?_eq_getElem h]
theorem filter_next (q : Nat → Bool) (k : Nat) : (List.range (k + 1)).filter q = bif q k then (List.range k).filter q ++ [k] else (List.range k).filter q := by
  rw [List.range_succ, List.filter_append]
  cases h : q k <;> simp [h]
theorem castL_push (l : List Nat) (k : Nat) : castL l ++ [(k : Int)] = castL (l ++ [k]) := by simp [castL]
theorem elems_ints {w : World} {S : Nat → Prop} : ∀ {l : List Int} {xs : List Value}, Elems rInt w S l xs → xs = l.map (Value.int .i64) := by
  intro l
  induction l with
  | nil => intro xs h; exact h
  | cons x l ih =>
    intro xs h
    obtain ⟨cs, rest, rfl, ⟨rfl, _⟩, h3⟩ := h
    rw [ih h3]; rfl
theorem own_irow {w : World} {base : Nat} {e : TypeId} {v : Value} {l : List Int} {S : Nat → Prop} (h : Own rInt w base e v l S) (h0 : 0 < l.length) : ∃ g cap, v = .slice (some ⟨g, 0, none⟩) l.length cap ∧ IRow w base g 0 cap l := by
  obtain ⟨_, xs, h1, h2⟩ := h
  obtain ⟨g, cap, rfl, _, _⟩ := World.ownsRow.form h1 h0
  rw [elems_ints h2] at h1
  exact ⟨g, cap, rfl, IRow.of_owns h1⟩

set_option maxHeartbeats 3200000 in
set_option maxRecDepth 100000 in
theorem inside_any (A : Option Addr) (n c : Nat) (xs : List Dir) (x : Int) (w : World) (S : Nat → Prop) (hx : SlV rDir w S xs (.slice A n c)) (hlen : ∀ d ∈ xs, d.path.length * 32 ≤ 140737488355328) (hnb : xs.length ≤ 1048576) :
    Calls Tryz.prog 27 #[.agg #[.slice A n c], .int .i64 x] w fun e w' => (∃ v, e = .returned v ∧ SlV rInt w' (fun b => w.heap.size ≤ b) (castL (insideI xs x)) v) ∧ Below w.heap.size w w' := by
  have hnx := hx.n_eq
  have hcx := hx.cap_le
  unfold maxLen at hcx
  by_cases h0 : x < 0
  · have hd : decide (x < 0) = true := decide_eq_true h0
    have He : Hid (insideI xs x = []) := insideI_lo h0
    clear hx hnx hcx hlen
    generalize insideI xs x = R at *
    go_enter Tryz.func27, Tryz.ntmps27
    go_wp2_with fail
    go_ret
    refine ⟨⟨_, rfl, ?_⟩, bal (Below.refl _ _) _⟩
    rw [He.out]; exact SlV.nil_ _ _ _
  have hd : decide (x < 0) = false := decide_eq_false h0
  by_cases h1 : (n : Int) ≤ x
  · have hd1 : decide ((n : Int) ≤ x) = true := decide_eq_true h1
    have He : Hid (insideI xs x = []) := insideI_hi (by omega)
    clear hx hnx hcx hlen
    generalize insideI xs x = R at *
    go_enter Tryz.func27, Tryz.ntmps27
    go_wp2_with fail
    go_ret
    refine ⟨⟨_, rfl, ?_⟩, bal (Below.refl _ _) _⟩
    rw [He.out]; exact SlV.nil_ _ _ _
  have hd1 : decide ((n : Int) ≤ x) = false := decide_eq_false h1
  obtain ⟨k, rfl⟩ : ∃ k : Nat, x = (k : Int) := ⟨x.toNat, by omega⟩
  have hk : k < xs.length := by omega
  have HR : Hid (insideI xs (k : Int) = insR (nmL xs) (insQ xs xs[k].path) xs.length) := insideI_at hk
  generalize insideI xs (k : Int) = R at *
  have hkn : (k : Int) < (n : Int) := by omega
  have hk0 : (0 : Int) ≤ (k : Int) := by omega
  have hn63 : n ≤ 1048576 := by omega
  have HX := Lib.hid (hx.more (S' := fun b => b < w.heap.size) fun b _ h => h)
  have hlk := hlen xs[k] (List.getElem_mem hk)
  have Hlen := Lib.hid hlen
  obtain ⟨b, o, cs, rfl, _, hb1, hh, hcell⟩ := hx.elem (List.getElem?_eq_getElem hk)
  obtain ⟨s0, s1, s2, s3, rfl, hp, _, _, _, _, _, _, _, _⟩ := hh
  obtain ⟨hA, hc, rfl, hpl, hpm⟩ := hp.val
  unfold maxLen at hpm
  have c0 := hcell 0 _ rfl
  simp only [rDir, Nat.add_zero] at c0
  have HP := Lib.hid (hp.more (S' := fun b => b < w.heap.size) fun b _ h => h)
  have Hnx := Lib.hid hnx
  clear hcell hp hx hlen hcx hnx hnb
  generalize xs[k].path = home at *
  generalize hl0 : home.length = h at *
  have Hh := Lib.hid hl0; clear hl0
  go_enter Tryz.func27, Tryz.ntmps27
  go_wp2_with fail
  obtain ⟨w0, hw0⟩ : ∃ w0, w0 = (w.alloc (.cells #[.slice (some ⟨b, o, none⟩) n c] 30)).alloc (.cells #[.slice hA h hc] 53) := ⟨_, rfl⟩
  have hz : w.heap.size < w0.heap.size := by rw [hw0]; simp [go_sem]
  have hz1 : w.heap.size + 1 < w0.heap.size := by rw [hw0]; simp [go_sem]
  have HB0 : Hid (Below w.heap.size w w0) := by unfold Hid; rw [hw0]; exact bal (bal (Below.refl _ _) _) _
  have a0 : w0.cell? ⟨w.heap.size, 0, none⟩ = some (.slice (some ⟨b, o, none⟩) n c) := by rw [hw0]; simp [go_sem]
  have a1 : w0.cell? ⟨w.heap.size + 1, 0, none⟩ = some (.slice hA h hc) := by rw [hw0]; simp [go_sem]
  rw [← hw0]
  clear hw0
  have HA : Hid (w0.cell? ⟨w.heap.size, 0, none⟩ = some (.slice (some ⟨b, o, none⟩) n c) ∧ w0.cell? ⟨w.heap.size + 1, 0, none⟩ = some (.slice hA h hc)) := ⟨a0, a1⟩
  clear a0 a1 c0
  go_loopw [6, 28] (fun v i wr => ∃ j : Nat, j ≤ n ∧ i = .int .i64 j ∧ Hid (Own rInt wr w0.heap.size 3 v (castL ((List.range j).filter (insQ xs home))) (fun _ => False)) ∧ Below w0.heap.size w0 wr) (fun _ i _ => n - (intOf i).toNat)
  case atStart => exact ⟨0, Nat.zero_le _, rfl, Own.nil_ rInt w0 w0.heap.size 3 (S := fun _ => False) (fun b h => h.elim), Below.refl _ _⟩
  case round =>
    obtain ⟨j, hj, rfl, Hown, hbel⟩ := hrel
    have b0 := below_cell hbel HA.out.1 hz
    have b1 := below_cell hbel HA.out.2 hz1
    have hbw := bot HB0.out hbel
    by_cases hlt : j < n
    case pos =>
      have hjx : j < xs.length := by have := Hnx.out; omega
      have hjI : (j : Int) < (n : Int) := by omega
      have hj0 : (0 : Int) ≤ (j : Int) := by omega
      obtain ⟨b2, o2, cs2, hAe2, _, hb2, hh2, hcell2⟩ := HX.out.elem (List.getElem?_eq_getElem hjx)
      obtain ⟨z0, z1, z2, z3, rfl, hp2, _, _, _, _, _, _, _, _⟩ := hh2
      obtain ⟨fA, fc, rfl, hfl, hfm⟩ := hp2.val
      unfold maxLen at hfm
      simp only [Option.some.injEq, Addr.mk.injEq] at hAe2
      obtain ⟨rfl, rfl, _⟩ := hAe2
      have c1 := below_cell hbw (hcell2 0 _ rfl) hb2
      simp only [rDir, Nat.add_zero] at c1
      have Hq := Lib.hid (insQ_at (home := home) hjx)
      have HP2 := Lib.hid hp2
      have Hnext := Lib.hid (filter_next (insQ xs home) j)
      have hfl2 : ((List.range j).filter (insQ xs home)).length ≤ j := by
        have := List.length_filter_le (insQ xs home) (List.range j)
        rw [List.length_range] at this; exact this
      have hcll : (castL ((List.range j).filter (insQ xs home))).length ≤ j := by unfold castL; rw [List.length_map]; exact hfl2
      clear hcell2 hp2 hfl2
      generalize xs[j].path = pt at *
      generalize insQ xs home j = qj at *
      have H1 : Hid (pt.length = h + 1 → ∀ d os, Calls Tryz.prog 75 #[.slice fA h fc, .slice hA h hc] (grow (redrawn wr d) os) fun e w'' => e = .returned (.bool (eqB (pt.take h) home)) ∧ ∃ p : Regrown, w'' = grow (redrawn wr p.d) p.os) := fun hl =>
        qcall (w := wr) (fun W hW => strsEq_any _ _ _ _ _ _ (pt.take h) home W _ _ ((SlV.take HP2.out (by omega)).belowSize (bot hbw hW)) (HP.out.belowSize (bot hbw hW)))
      rw [Hh.out] at Hq
      generalize hl2 : pt.length = l2 at *
      by_cases hlh : l2 = h + 1
      case neg =>
        have hlb : ((l2 : Int) == (h : Int) + 1) = false := by simp; omega
        have hqj : Hid (qj = false) := by unfold Hid; rw [Hq.out, decide_eq_false hlh]; rfl
        have hfe : (List.range (j + 1)).filter (insQ xs home) = (List.range j).filter (insQ xs home) := by rw [Hnext.out, hqj.out]; rfl
        have Hown2 := Lib.hid Hown.out
        rw [← hfe] at Hown2
        clear hfe
        clear hlh hl2 H1 Hown
        have hw9 : IntKind.i64.wrap ((h : Int) + 1) = (h : Int) + 1 := IntWalk.i64_in _ ⟨by omega, by omega⟩
        have r_b0 := cell_regrown b0
        have r_b1 := cell_regrown b1
        have r_c1 := cell_regrown c1
        go_wp2_with fail
        go_wp2_with fail
        refine wp_region_qb (by kernel_rfl) (by kernel_rfl) ?_
        repeat (go_big_quiet_step (first | fail))
        refine wpQuiet_nil ?_
        intro w3 B3
        have HO3 := Lib.hid (Hown2.out.keep B3)
        have Q3 := Lib.hid (bot hbel B3)
        clear b0 b1 c1 r_b0 r_b1 r_c1 B3 Hown2 hbel hbw
        go_wp2_with fail
        go_roundw
        case rel => exact ⟨j + 1, by omega, by go_num, HO3, Q3.out⟩
        case measure => simp [intOf]; omega
      have H2 := Lib.hid (H1.out hlh)
      rw [hlh] at c1 hfl
      have hlb : (((h + 1 : Nat) : Int) == (h : Int) + 1) = true := by simp
      have hlc : (((h : Int) + 1) == (h : Int) + 1) = true := by simp
      have hw9 : IntKind.i64.wrap ((h : Int) + 1) = (h : Int) + 1 := IntWalk.i64_in _ ⟨by omega, by omega⟩
      have hhc : h ≤ fc := by omega
      have hh0 : (0 : Int) ≤ (h : Int) := by omega
      have Hq2 : Hid (qj = eqB (pt.take h) home) := by unfold Hid; rw [Hq.out, decide_eq_true hlh, Bool.true_and]
      clear H1 hl2 hlh Hq
      generalize eqB (pt.take h) home = ev at *
      have Hq3 : Hid (ev = qj) := Hq2.out.symm
      clear Hq2
      obtain ⟨ln, hln⟩ : ∃ ln, (castL ((List.range j).filter (insQ xs home))).length = ln := ⟨_, rfl⟩
      have Hlen : Hid ((castL ((List.range j).filter (insQ xs home))).length = ln) := hln
      rw [hln] at hcll
      clear hln
      have r_b0 := cell_regrown b0
      have r_b1 := cell_regrown b1
      have r_c1 := cell_regrown c1
      go_wp2_with fail
      cases hev : ev
      · rw [hev] at H2
        have hqj : Hid (qj = false) := by unfold Hid; rw [← Hq3.out, hev]
        have hfe : (List.range (j + 1)).filter (insQ xs home) = (List.range j).filter (insQ xs home) := by rw [Hnext.out, hqj.out]; rfl
        have Hown2 := Lib.hid Hown.out
        rw [← hfe] at Hown2
        clear hfe
        clear hev Hown Hq3
        go_wp2_with fail
        refine wp_region_qb (by kernel_rfl) (by kernel_rfl) ?_
        repeat (go_big_quiet_step (first | (with_reducible exact H2.out _ _)))
        refine wpQuiet_nil ?_
        intro w3 B3
        have HO3 := Lib.hid (Hown2.out.keep B3)
        have Q3 := Lib.hid (bot hbel B3)
        clear b0 b1 c1 r_b0 r_b1 r_c1 B3 Hown2 hbel hbw H2
        go_wp2_with fail
        go_roundw
        case rel => exact ⟨j + 1, by omega, by go_num, HO3, Q3.out⟩
        case measure => simp [intOf]; omega
      · rw [hev] at H2
        have hqj : Hid (qj = true) := by unfold Hid; rw [← Hq3.out, hev]
        have Hfn : Hid (castL ((List.range j).filter (insQ xs home)) ++ [(j : Int)] = castL ((List.range (j + 1)).filter (insQ xs home))) := by unfold Hid; rw [Hnext.out, hqj.out, castL_push]; rfl
        clear hev Hq3
        go_wp2_with fail
        refine wp_region_qb (by kernel_rfl) (by kernel_rfl) ?_
        repeat (go_big_quiet_step (first | (with_reducible exact H2.out _ _)))
        refine wpQuiet_nil ?_
        intro w3 B3
        have HO3 := Lib.hid (Hown.out.keep B3)
        have Q3 := Lib.hid (bot hbel B3)
        have hs3 := Q3.out.size
        clear b0 b1 c1 r_b0 r_b1 r_c1 B3 Hown hbel hbw H2
        go_wp2_with (at_builtin; refine wpList_push (by rfl) _ _ _ (by rfl) elt_int3 Tryz.underlying75 (by rfl) (HO3.out.alloc _) ⟨w3.heap.size, 0, none⟩ 1 [.int .i64 j] (j : Int) (by rfl) ⟨rfl, by unfold I64; omega⟩ (news_of w3 #[.int .i64 j] _) (by rw [Hlen.out]; unfold maxLen; omega) (by rw [Hlen.out]; omega) (by simp; omega) (w3.heap.size + 1) (by simp) ?_)
        intro g9 cap9 w9 hown9 hgrow9 hat9 hlt9
        have HB9 := Lib.hid (bgrown (bal Q3.out _) hgrow9 (HO3.out.alloc _) (Nat.le_refl _))
        have Hown9 := Lib.hid hown9
        clear hown9 hgrow9
        rw [Hfn.out] at Hown9
        go_wp2_with fail
        go_roundw
        case rel => exact ⟨j + 1, by omega, by go_num, Hown9, HB9.out⟩
        case measure => simp [intOf]; omega
    case neg =>
      obtain rfl : j = n := by omega
      have hlt' : ¬ (j : Int) < (j : Int) := by omega
      clear hlt
      obtain ⟨F, hF⟩ : ∃ F, F = (List.range j).filter (insQ xs home) := ⟨_, rfl⟩
      rw [← hF] at Hown
      have HR2 : Hid (R = insR (nmL xs) (insQ xs home) xs.length) := HR.out
      have HRp : Hid (R.Perm F) := by unfold Hid; rw [HR2.out, hF, Hnx.out]; exact insR_perm _ _ _
      have HRs : Hid (R.Pairwise fun x y => ltN (nmL xs) x y = true) := by unfold Hid; rw [HR2.out]; exact insR_sorted _ _ _
      have HFm : Hid (∀ y ∈ F, ∃ hy : y < xs.length, xs[y].path.length = h + 1) := fun y hy => by
        rw [hF, List.mem_filter, List.mem_range] at hy
        have hyx : y < xs.length := by have := Hnx.out; omega
        rw [insQ_at hyx] at hy
        simp only [Bool.and_eq_true, decide_eq_true_eq] at hy
        exact ⟨hyx, by rw [← Hh.out]; exact hy.2.1⟩
      have HFl : Hid (F.length ≤ j) := by
        have := List.length_filter_le (insQ xs home) (List.range j)
        rw [List.length_range] at this; unfold Hid; rw [hF]; exact this
      have hcF : (castL F).length = F.length := by unfold castL; rw [List.length_map]
      clear hF HR HR2
      have hst : ∀ (cb : Array Value) (a : Addr) (md : Mode) (W : World), Sem.run Tryz.prog (store a (.func (.func 76) #[] cb) md) W = stored Tryz.prog W a (.func (.func 76) #[] cb) md := fun cb a md W => run_store Tryz.prog W a _ md rfl
      have hsv := Hown.out.slv
      obtain ⟨oA, oc, hvv, _, _⟩ := hsv.val
      rcases Nat.eq_zero_or_pos F.length with hF0 | hF0
      · have hFn : F = [] := List.eq_nil_of_length_eq_zero hF0
        have hRn : Hid (R = []) := by have := HRp.out; rw [hFn] at this; exact this.eq_nil
        rw [hcF, hF0] at hvv
        subst hvv
        have Hsv0 : Hid (∀ (W : World) (T : Nat → Prop), SlV rInt W T (castL []) (.slice oA 0 oc)) := fun W T => by
          have h5 := hsv
          rw [hFn] at h5
          obtain ⟨A', c', g1, g2, g3, g4, _⟩ := h5
          exact ⟨A', c', g1, g2, g3, g4, fun h => absurd h (by simp [castL])⟩
        have Hnone : Hid (∀ (fv : Value) (W : World), Calls Tryz.prog 77 #[.slice oA 0 oc, fv] W fun e w' => e = .returned (.tuple #[]) ∧ w' = W) := fun fv W => Tryz.slices_SortFunc_none (α := Nat) oA oc fv W
        clear hsv Hown HRp HRs HFm HFl hcF hFn hF0
        go_wp2_with fail
        refine (Hnone.out _ _).mono ?_
        rintro e w5 ⟨rfl, rfl⟩
        go_wp2_with fail
        go_ret
        refine ⟨⟨_, rfl, ?_⟩, bal hbw _⟩
        rw [hRn.out]
        exact Hsv0.out _ _
      · obtain ⟨g, cap, hve, hrow⟩ := own_irow Hown.out (by rw [hcF]; exact hF0)
        rw [hcF] at hve
        rw [hve] at hvv ⊢
        have Hrow := Lib.hid hrow
        have hgl := hrow.lt
        have hglo := hrow.lo
        clear hsv Hown hvv hve hrow
        have Hso := fun (W : World) (b9 : Nat) => sortIns_any xs h j c w.heap.size (w.heap.size + 1) b9 b o hc hA w W w0.heap.size g cap F R HX.out
        have HSo := Lib.hid Hso; clear Hso
        have hg0 : w.heap.size ≠ g := by omega
        have hg1 : w.heap.size + 1 ≠ g := by omega
        have hgw : wr.heap.size ≠ g := by omega
        have hs0 := HB0.out.size
        have hxl : xs.length ≤ 9223372036854775807 := by have := Hnx.out; omega
        have hFl2 : F.length < 4611686018427387904 := by have := HFl.out; omega
        have hh63 : h ≤ 9223372036854775807 := by omega
        have hsz := hbel.size
        go_wp2_with fail
        obtain ⟨w5, hw5⟩ : ∃ w5, w5 = wr.alloc (.cells #[.func (.func 76) #[] #[.pointer (some ⟨w.heap.size, 0, none⟩), .pointer (some ⟨w.heap.size + 1, 0, none⟩)]] 134) := ⟨_, rfl⟩
        have HB5 : Hid (Below wr.heap.size wr w5) := by unfold Hid; rw [hw5]; exact bal (Below.refl _ _) _
        have c9 : w5.cell? ⟨wr.heap.size, 0, none⟩ = some (.func (.func 76) #[] #[.pointer (some ⟨w.heap.size, 0, none⟩), .pointer (some ⟨w.heap.size + 1, 0, none⟩)]) := cell_new3 hw5 rfl rfl
        rw [← hw5]
        have d0 := below_cell HB5.out b0 (Nat.lt_of_lt_of_le hz hsz)
        have d1 := below_cell HB5.out b1 (Nat.lt_of_lt_of_le hz1 hsz)
        refine (HSo.out w5 wr.heap.size (bot hbw HB5.out) hs0 d0 d1 c9 hg0 hg1 hgw HFm.out hF0 (Hrow.out.keep HB5.out) HRp.out HRs.out hh63 hxl hFl2).mono ?_
        rintro e w6 ⟨rfl, hsl, hgr⟩
        have HSl := Lib.hid hsl
        have Q6 : Hid (Below w.heap.size w w6) := (bot hbw HB5.out).grown hgr (bot hbw HB5.out).size (fun q hq => by have := Option.some.inj hq; omega)
        clear hsl hgr hw5 d0 d1 c9 b0 b1
        go_wp2_with fail
        go_ret
        exact ⟨⟨_, rfl, HSl.out.more fun b hb _ => Nat.le_trans hs0 hb⟩, Q6.out⟩
end Go.Proofs.YthbnmehbhpakaaaGreatDoor
set_option autoImplicit false
set_option relaxedAutoImplicit false
set_option linter.unusedVariables false
set_option linter.unusedSimpArgs false
namespace Go.Proofs.YthbnmehbhpakaaaGreatDoor
open Go.Rows Go.RowKit Go.Shelf Go.Sort

end Go.Proofs.YthbnmehbhpakaaaGreatDoor
set_option autoImplicit false
set_option relaxedAutoImplicit false
set_option linter.unusedVariables false
set_option linter.unusedSimpArgs false
namespace Go.Proofs.YthbnmehbhpakaaaGreatDoor
open Go.Rows Go.RowKit Go.Shelf Go.Sort

def zeroPack : Pack := ⟨⟨#[]⟩, ⟨0, 0, 0⟩, [], [], []⟩
noncomputable def rootB (d : Dir) : Bool := decide (d.path.length = 0) && (eqB d.pack zeroPack && decide (d.node = 0))
noncomputable def okGo (t : List Dir) : List Dir → Nat → Bool
  | [], _ => true
  | d :: l, k => (bif decide (k = 0) then rootB d else standsB t d k) && okGo t l (k + 1)
noncomputable def checkE (t : List Dir) : Int := if t.length < 1 ∨ 257 < t.length then 42 else bif okGo t t 0 then 0 else 42
theorem okGo_at (t : List Dir) {l : List Dir} {k : Nat} (h : k < l.length) : okGo t (l.drop k) k = ((bif decide (k = 0) then rootB l[k] else standsB t l[k] k) && okGo t (l.drop (k + 1)) (k + 1)) := by
  rw [List.drop_eq_getElem_cons h, okGo]
theorem packV_zero (w : World) (S : Nat → Prop) : PackV w S zeroPack (.agg #[.string ⟨#[]⟩, .int .i64 0, .int .i64 0, .int .i64 0, .slice none 0 0, .slice none 0 0, .slice none 0 0]) :=
  ⟨none, 0, 0, none, 0, 0, none, 0, 0, rfl, Nat.zero_le _, SlV.nil_ _ _ _, SlV.nil_ _ _ _, SlV.nil_ _ _ _⟩

set_option maxHeartbeats 3200000 in
set_option maxRecDepth 100000 in
theorem check_any (A : Option Addr) (n c : Nat) (xs : List Dir) (w : World) (S : Nat → Prop) (ht : Tab w) (hlen : ∀ d ∈ xs, d.path.length * 32 ≤ 140737488355328) (hx : SlV rDir w S xs (.slice A n c)) :
    Calls Tryz.prog 103 #[.agg #[.slice A n c]] w fun e w' => e = .returned (.int .i64 (checkE xs)) ∧ Below w.heap.size w w' := by
  have hnx := hx.n_eq
  have hcx := hx.cap_le
  unfold maxLen at hcx
  have hn63 : n ≤ 9223372036854775807 := by omega
  have HX := Lib.hid (hx.more (S' := fun b => b < w.heap.size) fun b _ h => h)
  have Hst : Hid (∀ (k : Nat) (hk : k < xs.length) W, Below w.heap.size w W → Calls Tryz.prog 167 #[.agg #[.slice A n c], .int .i64 k] W fun e w' => e = .returned (.bool (standsB xs xs[k] k)) ∧ Below W.heap.size W w') := fun k hk W hW => stands_any A n c xs W _ k hk (tab_below ht hW) hlen (hx.belowSize hW)
  by_cases hn1 : n < 1
  · have hni : (n : Int) < 1 := by omega
    have hnk : decide ((n : Int) < 1) = true := decide_eq_true hni
    have He : Hid (checkE xs = 42) := by unfold Hid checkE; rw [if_pos (.inl (by omega))]
    clear hx hcx hnx Hst HX
    generalize checkE xs = R at *
    go_enter Tryz.func103, Tryz.ntmps103
    go_wp2_with fail
    go_ret
    exact ⟨ret_int He.out.symm, bal (Below.refl _ _) _⟩
  by_cases hn2 : 257 < n
  · have hni : ¬ (n : Int) < 1 := by omega
    have hnk : decide ((n : Int) < 1) = false := decide_eq_false hni
    have hmi : (257 : Int) < (n : Int) := by omega
    have hmk : decide ((257 : Int) < (n : Int)) = true := decide_eq_true hmi
    have He : Hid (checkE xs = 42) := by unfold Hid checkE; rw [if_pos (.inr (by omega))]
    clear hx hcx hnx Hst HX
    generalize checkE xs = R at *
    go_enter Tryz.func103, Tryz.ntmps103
    go_wp2_with fail
    go_ret
    exact ⟨ret_int He.out.symm, bal (Below.refl _ _) _⟩
  have hni : ¬ (n : Int) < 1 := by omega
  have hnk : decide ((n : Int) < 1) = false := decide_eq_false hni
  have hmi : ¬ (257 : Int) < (n : Int) := by omega
  have hmk : decide ((257 : Int) < (n : Int)) = false := decide_eq_false hmi
  have HR : Hid (checkE xs = bif okGo xs (xs.drop 0) 0 then 0 else 42) := by unfold Hid checkE; rw [if_neg (by omega)]; rfl
  have Hnx := Lib.hid hnx; clear hnx
  clear hx hcx hlen ht
  generalize checkE xs = R at *
  go_enter Tryz.func103, Tryz.ntmps103
  go_wp2_with fail
  obtain ⟨w0, hw0⟩ : ∃ w0, w0 = w.alloc (.cells #[.slice A n c] 30) := ⟨_, rfl⟩
  have hz : w.heap.size < w0.heap.size := by rw [hw0]; simp [go_sem]
  have hb0 : Below w.heap.size w w0 := by rw [hw0]; exact bal (Below.refl _ _) _
  have a0 : w0.cell? ⟨w.heap.size, 0, none⟩ = some (.slice A n c) := by rw [hw0]; simp [go_sem]
  rw [← hw0]
  clear hw0
  have HB0 := Lib.hid hb0; clear hb0
  go_loopw [19] (fun i wr => ∃ k : Nat, k ≤ n ∧ i = .int .i64 k ∧ Hid (R = bif okGo xs (xs.drop k) k then 0 else 42) ∧ Below w0.heap.size w0 wr) (fun i _ => n - (intOf i).toNat)
  case atStart => exact ⟨0, Nat.zero_le _, rfl, HR, Below.refl _ _⟩
  case round =>
    obtain ⟨k, hk, rfl, heq, hbel⟩ := hrel
    have b0 := below_cell hbel a0 hz
    have hbel' := bot HB0.out hbel
    have hzr : w.heap.size < wr.heap.size := Nat.lt_of_lt_of_le hz hbel.size
    by_cases hlt : k < n
    · have hkx : k < xs.length := by have := Hnx.out; omega
      have hxw := HX.out.below hbel' (fun b h => h)
      obtain ⟨b, oo, cs, rfl, _, hb1, hh, hcell⟩ := hxw.elem (List.getElem?_eq_getElem hkx)
      obtain ⟨pA, pa, pB, pb, pC, pc, pD, pd, rfl, hp, hpk, hI⟩ := dir_cells hh
      have c0 := hcell 0 _ rfl
      have c1 := hcell 1 _ rfl
      have c2 := hcell 2 _ rfl
      have c3 := hcell 3 _ rfl
      have c4 := hcell 4 _ rfl
      have c5 := hcell 5 _ rfl
      have c6 := hcell 6 _ rfl
      have c7 := hcell 7 _ rfl
      have c8 := hcell 8 _ rfl
      simp only [rDir, Nat.add_zero] at c0 c1 c2 c3 c4 c5 c6 c7 c8
      have Hat := Lib.hid (okGo_at xs hkx)
      have Hs : Hid (∀ o : Obj, Calls Tryz.prog 167 #[.agg #[.slice (some ⟨b, oo, none⟩) n c], .int .i64 k] (wr.alloc o) fun e w' => e = .returned (.bool (standsB xs xs[k] k)) ∧ Below (wr.alloc o).heap.size (wr.alloc o) w') := fun o => Hst.out k hkx _ (bal hbel' o)
      have Hsm : Hid (∀ o : Obj, Calls Tryz.prog 132 #[.agg #[.string xs[k].pack.name, .int .i64 xs[k].pack.ver.major, .int .i64 xs[k].pack.ver.minor, .int .i64 xs[k].pack.ver.patch, .slice pB xs[k].pack.deps.length pb, .slice pC xs[k].pack.peers.length pc, .slice pD xs[k].pack.opts.length pd], .agg #[.string ⟨#[]⟩, .int .i64 0, .int .i64 0, .int .i64 0, .slice none 0 0, .slice none 0 0, .slice none 0 0]] (wr.alloc o) fun e w' => e = .returned (.bool (eqB xs[k].pack zeroPack)) ∧ Below (wr.alloc o).heap.size (wr.alloc o) w') := fun o => packSame_any _ _ _ _ _ _ (fun _ => True) (hpk.keep (bal (Below.refl _ _) o)) (packV_zero _ _)
      have Hro : Hid (rootB xs[k] = (decide (xs[k].path.length = 0) && (eqB xs[k].pack zeroPack && decide (xs[k].node = 0)))) := rfl
      clear hcell hxw hp hpk hh hI
      have hk0 : (0 : Int) ≤ (k : Int) := by omega
      have hkn : (k : Int) < (n : Int) := by omega
      generalize standsB xs xs[k] k = sb at *
      generalize rootB xs[k] = rb at *
      generalize eqB xs[k].pack zeroPack = eb at *
      generalize xs[k].path.length = l0 at *
      generalize xs[k].pack.deps.length = l1 at *
      generalize xs[k].pack.peers.length = l2 at *
      generalize xs[k].pack.opts.length = l3 at *
      generalize xs[k].pack.name = nm at *
      generalize xs[k].pack.ver.major = y1 at *
      generalize xs[k].pack.ver.minor = y2 at *
      generalize xs[k].pack.ver.patch = y3 at *
      generalize xs[k].node = nd at *
      have Hno : Hid ((bif decide (k = 0) then rb else sb) = false → R = 42) := fun h => by rw [heq.out, Hat.out, h]; rfl
      have Hyes : Hid ((bif decide (k = 0) then rb else sb) = true → R = bif okGo xs (xs.drop (k + 1)) (k + 1) then 0 else 42) := fun h => by rw [heq.out, Hat.out, h]; rfl
      clear Hat heq
      by_cases hkz : k = 0
      · have hkb : ((k : Int) == 0) = true := by simp [hkz]
        have Hno' : Hid (rb = false → R = 42) := fun h => Hno.out (by rw [decide_eq_true hkz]; exact h)
        have Hyes' : Hid (rb = true → R = bif okGo xs (xs.drop (k + 1)) (k + 1) then 0 else 42) := fun h => Hyes.out (by rw [decide_eq_true hkz]; exact h)
        clear Hno Hyes Hs hkz
        by_cases hl0 : l0 = 0
        case neg =>
          have hzb : ((l0 : Int) == 0) = false := by simp [hl0]
          have He : Hid (R = 42) := Hno'.out (by rw [Hro.out, decide_eq_false hl0]; rfl)
          clear hl0 Hro
          go_wp2_with fail
          go_ret
          exact ⟨ret_int He.out.symm, bal hbel' _⟩
        have hzb : ((l0 : Int) == 0) = true := by simp [hl0]
        have Hro2 : Hid (rb = (eb && decide (nd = 0))) := by unfold Hid; rw [Hro.out, decide_eq_true hl0]; rfl
        clear hl0 Hro
        go_wp2_with fail
        refine (Hsm.out _).mono ?_
        rintro e w1 ⟨rfl, B1⟩
        have B2 := bot (bal hbel' _) B1
        have g8 := below_cell B1 (show (wr.alloc (.cells #[.slice pA l0 pa, .string nm, .int .i64 y1, .int .i64 y2, .int .i64 y3, .slice pB l1 pb, .slice pC l2 pc, .slice pD l3 pd, .int .i64 nd] 59)).cell? ⟨wr.heap.size, 8, none⟩ = some (.int .i64 nd) by simp [go_sem]) (by simp [go_sem])
        have B3 := bot (bal hbel _) B1
        clear B1
        cases eb
        · have He : Hid (R = 42) := Hno'.out (by rw [Hro2.out]; rfl)
          go_wp2_with fail
          go_ret
          exact ⟨ret_int He.out.symm, B2⟩
        by_cases hnd : nd = 0
        · have hdb : (nd == 0) = true := by simp [hnd]
          have He := Lib.hid (Hyes'.out (by rw [Hro2.out, decide_eq_true hnd]; rfl))
          clear hnd
          go_wp2_with fail
          go_roundw
          case rel => exact ⟨k + 1, by omega, by go_num, He, B3⟩
          case measure => simp [intOf]; omega
        · have hdb : (nd == 0) = false := by simp [hnd]
          have He : Hid (R = 42) := Hno'.out (by rw [Hro2.out, decide_eq_false hnd]; rfl)
          clear hnd
          go_wp2_with fail
          go_ret
          exact ⟨ret_int He.out.symm, B2⟩
      · have hkb : ((k : Int) == 0) = false := by simp [hkz]
        have Hno' : Hid (sb = false → R = 42) := fun h => Hno.out (by rw [decide_eq_false hkz]; exact h)
        have Hyes' : Hid (sb = true → R = bif okGo xs (xs.drop (k + 1)) (k + 1) then 0 else 42) := fun h => Hyes.out (by rw [decide_eq_false hkz]; exact h)
        clear Hno Hyes Hsm Hro hkz
        have bo : ∀ o : Obj, (wr.alloc o).cell? ⟨w.heap.size, 0, none⟩ = some (.slice (some ⟨b, oo, none⟩) n c) := fun o => below_cell (bal (Below.refl _ _) o) b0 hzr
        go_wp2_with fail
        refine (Hs.out _).mono ?_
        rintro e w1 ⟨rfl, B1⟩
        have B2 := bot (bal hbel' _) B1
        have B3 := bot (bal hbel _) B1
        clear B1
        cases sb
        · have He : Hid (R = 42) := Hno'.out rfl
          go_wp2_with fail
          go_ret
          exact ⟨ret_int He.out.symm, B2⟩
        · have He := Lib.hid (Hyes'.out rfl)
          go_wp2_with fail
          go_roundw
          case rel => exact ⟨k + 1, by omega, by go_num, He, B3⟩
          case measure => simp [intOf]; omega
    · have He : Hid (R = 0) := by unfold Hid; rw [heq.out, List.drop_eq_nil_of_le (by have := Hnx.out; omega)]; rfl
      go_wp2_with fail
      go_ret
      exact ⟨ret_int He.out.symm, hbel'⟩
end Go.Proofs.YthbnmehbhpakaaaGreatDoor
/-
  The document's Check: may a tree be?
-/
set_option autoImplicit false
set_option relaxedAutoImplicit false
set_option linter.unusedVariables false
set_option linter.unusedSimpArgs false
namespace Go.Proofs.YthbnmehbhpakaaaGreatDoor
open Go.Rows Go.RowKit Go.Shelf Go.Sort

end Go.Proofs.YthbnmehbhpakaaaGreatDoor
set_option autoImplicit false
set_option relaxedAutoImplicit false
set_option linter.unusedVariables false
set_option linter.unusedSimpArgs false
namespace Go.Proofs.YthbnmehbhpakaaaGreatDoor
open Go.Rows Go.RowKit Go.Shelf Go.Sort

theorem firstGo_sound (q : Dir → Bool) : ∀ (t : List Dir) (k j : Nat), firstGo q t k = (j : Int) → ∃ i, ∃ h : i < t.length, j = k + i ∧ q t[i] = true := by
  intro t
  induction t with
  | nil => intro k j h; rw [firstGo] at h; omega
  | cons d t ih =>
    intro k j h
    rw [firstGo] at h
    cases hq : q d
    · rw [hq] at h
      obtain ⟨i, hi, e, hqi⟩ := ih (k + 1) j h
      exact ⟨i + 1, by simpa using hi, by omega, by simpa using hqi⟩
    · rw [hq] at h
      refine ⟨0, by simp, ?_, by simpa using hq⟩
      have : (k : Int) = (j : Int) := h
      omega
theorem findI_sound {t : List Dir} {p : List ByteArray} {j : Nat} (h : findI t p = (j : Int)) : ∃ hj : j < t.length, t[j].path = p := by
  unfold findI firstI at h
  obtain ⟨i, hi, e, hq⟩ := firstGo_sound _ t 0 j h
  obtain rfl : i = j := by omega
  refine ⟨hi, ?_⟩
  by_cases e : t[i].path = p
  · exact e
  · rw [eqB_false e] at hq; cases hq
theorem findI_none {t : List Dir} {p : List ByteArray} (h : findI t p < 0) {d : Dir} (hd : d ∈ t) : d.path ≠ p := by
  intro e
  unfold findI at h
  rcases firstI_lt (fun d => eqB d.path p) t with h' | ⟨j, h', _⟩
  · have := List.any_eq_false.1 h'.2 d hd
    rw [eqB_true e] at this
    exact this rfl
  · omega
theorem okGo_stands (t : List Dir) : ∀ (l : List Dir) (k : Nat), okGo t l k = true → ∀ j (h : j < l.length), k + j ≠ 0 → standsB t l[j] (k + j) = true := by
  intro l
  induction l with
  | nil => intro k _ j h; simp at h
  | cons d l ih =>
    intro k hk j h h0
    rw [okGo, Bool.and_eq_true] at hk
    cases j with
    | zero =>
      have hd : decide (k = 0) = false := decide_eq_false (by omega)
      rw [hd] at hk
      exact hk.1
    | succ j =>
      have := ih (k + 1) hk.2 j (by simpa using h) (by omega)
      rw [show k + (j + 1) = k + 1 + j by omega]
      simpa using this
theorem okGo_root {t : List Dir} {d : Dir} {l : List Dir} (h : okGo t (d :: l) 0 = true) : d.path = [] := by
  rw [okGo, Bool.and_eq_true] at h
  have h1 : rootB d = true := h.1
  unfold rootB at h1
  simp only [Bool.and_eq_true, decide_eq_true_eq] at h1
  exact List.eq_nil_of_length_eq_zero h1.1
theorem checkE_ok {t : List Dir} (h : checkE t = 0) : okGo t t 0 = true := by
  unfold checkE at h
  split at h
  · exact absurd h (by decide)
  · cases hk : okGo t t 0
    · rw [hk] at h; exact absurd h (by decide)
    · rfl
theorem stands_of {t : List Dir} (h : checkE t = 0) {i : Nat} (hi : i < t.length) (h1 : 1 ≤ i) :
    t[i].path ≠ [] ∧ findI t t[i].path = (i : Int) ∧ nameB (lastN t[i].path) = true := by
  have := okGo_stands t t 0 (checkE_ok h) i hi (by omega)
  rw [Nat.zero_add] at this
  unfold standsB at this
  simp only [Bool.and_eq_true, decide_eq_true_eq] at this
  obtain ⟨a1, a2, a3, a4, a5, a6, a7, a8, a9⟩ := this
  refine ⟨fun e => a1 (by rw [e]; rfl), a5, ?_⟩
  rw [← a9]
  unfold packB at a8
  simp only [Bool.and_eq_true] at a8
  exact a8.1
theorem root_of {t : List Dir} (h : checkE t = 0) (h0 : 0 < t.length) : t[0].path = [] := by
  have := checkE_ok h
  match t, h0, this with
  | d :: l, _, h' => exact okGo_root h'
end Go.Proofs.YthbnmehbhpakaaaGreatDoor
