/-
  The document's drawing of a tree: how many rows a directory takes, and what is drawn below it.
-/
import Derived.Test.YtkpbnbnfgadkcaaGreatDoorDrawL
set_option autoImplicit false
set_option relaxedAutoImplicit false
set_option linter.unusedVariables false
set_option linter.unusedSimpArgs false
namespace Go.Proofs.YtkpbnbnfgadkcaaGreatDoor
open Go.Rows Go.RowKit Go.Shelf Go.Sort

theorem keep_cell {w0 W W' : World} {b o : Nat} {v : Value} (h : W.cell? ⟨b, o, none⟩ = some v) (hB : Below w0.heap.size w0 W) (hB' : Below W.heap.size W W') : W'.cell? ⟨b, o, none⟩ = some v :=
  (hB'.cell (p := ⟨b, o, none⟩) (cell_lt h)).trans h

set_option maxHeartbeats 1600000 in
set_option maxRecDepth 100000 in
theorem refRows_any (xs : List Dir) (h : checkE xs = 0) (hlen : ∀ d ∈ xs, d.path.length * 32 ≤ 140737488355328) (hnb : xs.length ≤ 1048576) : ∀ (f : Nat) (A : Option Addr) (n c j : Nat) (w : World) (S : Nat → Prop), SlV rDir w S xs (.slice A n c) → j < xs.length → xs.length ≤ j + f →
    Calls Tryz.prog 44 #[.agg #[.slice A n c], .int .i64 j] w fun e w' => e = .returned (.int .i64 (rowsF xs f j)) ∧ Below w.heap.size w w' := by
  intro f
  induction f with
  | zero => intro A n c j w S hx hj hf; omega
  | succ f ih =>
    intro A n c j w S hx hj hf
    have HI : Hid (∀ W, Below w.heap.size w W → Calls Tryz.prog 18 #[.agg #[.slice A n c], .int .i64 (j : Int)] W fun e w' => (∃ v, e = .returned v ∧ SlV rInt w' (fun b => W.heap.size ≤ b) (castL (insideI xs (j : Int))) v) ∧ Below W.heap.size W w') := fun W hW => refInside_any _ _ _ xs (j : Int) W _ (hx.belowSize hW) hlen hnb
    have HR : Hid (∀ (k : Nat) (hk : k < (insideL xs j).length), ∀ W, Below w.heap.size w W → Calls Tryz.prog 44 #[.agg #[.slice A n c], .int .i64 ((insideL xs j)[k] : Int)] W fun e w' => e = .returned (.int .i64 (rowsF xs f (insideL xs j)[k])) ∧ Below W.heap.size W w') := fun k hk W hW => by
      obtain ⟨hk', hjk, _, _⟩ := inside_path h hj (List.getElem_mem hk)
      exact ih A n c _ W _ (hx.belowSize hW) hk' (by omega)
    have Hsn : Hid (∀ k (hk : k < (insideL xs j).length), sumR (rowsF xs f) ((insideL xs j).take (k + 1)) = sumR (rowsF xs f) ((insideL xs j).take k) + rowsF xs f (insideL xs j)[k]) := fun k hk => sumR_snoc _ hk
    have Hbd : Hid (∀ k (hk : k < (insideL xs j).length), sumR (rowsF xs f) ((insideL xs j).take k) + rowsF xs f (insideL xs j)[k] ≤ 257) := fun k hk => by
      have h1 := sumR_take_lt (r := rowsF xs f) hk
      have h2 := rows_le_at h (f + 1) j hj hf
      rw [rowsF, if_neg (fun e => by rw [e] at hk; simp at hk)] at h2
      have := (check_len h).2
      omega
    have Hres : Hid (rowsF xs (f + 1) j = if insideL xs j = [] then 1 else sumR (rowsF xs f) (insideL xs j)) := by unfold Hid; rw [rowsF]
    rw [Hres.out]
    clear Hres hx ih
    rw [insideI_nat] at HI
    generalize insideL xs j = L at *
    obtain ⟨ln, hln⟩ : ∃ ln, ln = L.length := ⟨_, rfl⟩
    obtain ⟨R, hR⟩ : ∃ R : Int, R = ((if L = [] then 1 else sumR (rowsF xs f) L : Nat) : Int) := ⟨_, rfl⟩
    rw [← hR]
    have HRR := Lib.hid hR
    have Hln := Lib.hid hln
    clear hR hln
    go_enter Tryz.func44, Tryz.ntmps44
    go_wp2_with fail
    obtain ⟨w0, hw0⟩ : ∃ w0, w0 = w.alloc (.cells #[.slice A n c] 24) := ⟨_, rfl⟩
    have hz : w.heap.size < w0.heap.size := by rw [hw0]; simp [go_sem]
    have HB0 : Hid (Below w.heap.size w w0) := by unfold Hid; rw [hw0]; exact bal (Below.refl _ _) _
    have a0 : w0.cell? ⟨w.heap.size, 0, none⟩ = some (.slice A n c) := by rw [hw0]; simp [go_sem]
    rw [← hw0]
    clear hw0
    have HA0 := Lib.hid a0
    refine (HI.out w0 HB0.out).mono ?_
    rintro e w1 ⟨⟨v, rfl, hv⟩, B1⟩
    obtain ⟨vA, vc, hve, hvl, hvm⟩ := hv.val
    have hcl : (castL L).length = L.length := by unfold castL; rw [List.length_map]
    have HV := Lib.hid hv
    clear hv HI a0
    rw [hcl, ← Hln.out] at hve hvl
    unfold maxLen at hvm
    rw [hve] at HV
    subst hve
    clear hcl
    have Q1 := Lib.hid B1
    clear B1
    go_wp2_with fail
    go_loopw [6, 7] (fun s i wr => ∃ k : Nat, k ≤ ln ∧ i = .int .i64 k ∧ s = .int .i64 (sumR (rowsF xs f) (L.take k) : Nat) ∧ Hid (Below w0.heap.size w0 wr) ∧ Hid (SlV rInt wr (fun b => w0.heap.size ≤ b) (castL L) (.slice vA ln vc))) (fun _ i _ => ln - (intOf i).toNat)
    case atStart => exact ⟨0, Nat.zero_le _, rfl, by simp [sumR], Q1, HV⟩
    case round =>
      clear Q1 HV
      obtain ⟨k, hk, rfl, rfl, Hbel, HV⟩ := hrel
      by_cases hlt : k < ln
      case neg =>
        have hke : k = ln := by omega
        have hlt' : ¬ (k : Int) < (ln : Int) := by omega
        have htk : L.take k = L := by rw [hke, Hln.out, List.take_length]
        rw [htk]
        clear htk hke
        by_cases hl0 : L = []
        · have hl : ln = 0 := by rw [Hln.out, hl0]; rfl
          have hr1 : R = 1 := by rw [HRR.out, if_pos hl0]; rfl
          subst hl
          subst hr1
          clear hl0
          go_wp2_with fail
          go_ret
          exact ⟨rfl, bot HB0.out Hbel.out⟩
        · have hl : ((ln : Int) == 0) = false := by
            have := List.length_pos_iff.2 hl0
            have := Hln.out
            simp; omega
          have hr1 : R = (sumR (rowsF xs f) L : Nat) := by rw [HRR.out, if_neg hl0]
          subst hr1
          clear hl0
          go_wp2_with fail
          go_ret
          exact ⟨rfl, bot HB0.out Hbel.out⟩
      have hkL : k < L.length := by have := Hln.out; omega
      have b0 := below_cell Hbel.out HA0.out hz
      have hbw := bot HB0.out Hbel.out
      have hkI : (k : Int) < (ln : Int) := by omega
      have hk0 : (0 : Int) ≤ (k : Int) := by omega
      have hbd := Hbd.out k hkL
      have hsn := Hsn.out k hkL
      obtain ⟨yb, yo, ycs, hAe, hyb, hyl, ⟨rfl, _⟩, hyc⟩ := HV.out.elem (castL_get (List.getElem?_eq_getElem hkL))
      subst hAe
      have y0 := hyc 0 _ rfl
      simp only [rInt, Nat.add_zero, Nat.mul_one] at y0
      clear hyc
      have H1 := Lib.hid (qcall (w := wr) (fun W hW => HR.out k hkL W (bot hbw hW)))
      have Hsn2 := Lib.hid hsn
      clear hsn
      generalize rowsF xs f L[k] = r at *
      generalize sumR (rowsF xs f) (L.take k) = s1 at *
      generalize L[k] = y at *
      have hws : IntKind.i64.wrap ((s1 : Int) + (r : Int)) = (s1 : Int) + (r : Int) := wrap_small (by rw [show (2 : Nat) ^ 53 = 9007199254740992 from by decide]; omega)
      have r_b0 := cell_regrown b0
      have r_y0 := cell_regrown y0
      go_wp2_with fail
      refine wp_region_qb (by kernel_rfl) (by kernel_rfl) ?_
      repeat (go_big_quiet_step (first | (with_reducible exact H1.out _ _)))
      refine wpQuiet_nil ?_
      intro w5 B5
      have HV5 := Lib.hid (HV.out.belowSize B5)
      have Hb5 := Lib.hid (bot Hbel.out B5)
      clear b0 y0 r_b0 r_y0 H1 B5 hbw HV Hbel
      go_wp2_with fail
      go_roundw
      case rel => exact ⟨k + 1, by omega, by go_num, by rw [Hsn2.out]; go_num, Hb5, HV5⟩
      case measure => simp [intOf]; omega

section
variable {α : Type} {r : Rp α} {w : World} {S : Nat → Prop} {base : Nat} {e : TypeId}
/-- a row of the call's own with one element, as a literal lays it -/
theorem Own.lit (y : α) (cs : Array Value) (hb : base ≤ w.heap.size) (hy : r.holds w S y cs.toList) (hS : ∀ b, S b → b < w.heap.size) : Own r (w.alloc (.cells cs e)) base e (.slice (some ⟨w.heap.size, 0, none⟩) 1 1) [y] S := by
  have hl := r.len hy
  refine ⟨fun b hb' => ⟨?_, ?_⟩, cs.toList, ⟨?_, .inr ⟨w.heap.size, 1, cs, rfl, hb, heap_alloc_new w _, Nat.le_refl _, by decide, ?_, ?_⟩⟩, Elems.one_ (Rp.alloc hy _)⟩
  · have := hS b hb'; simp [go_sem]; omega
  · intro he
    have := hS b hb'
    simp [Value.ownBlock] at he
    omega
  · rw [hl]; simp
  · rw [← Array.length_toList, hl]; simp
  · rw [List.length_singleton, Nat.one_mul, ← hl, List.take_length]
theorem step_extend {P : Program} {ops : Array Oper} {o : Oper} {a : Act} {K : Act → World → Prop} {Q : Exit → Act → World → Prop} {bytes : Nat} {v : Value} {l : List α} {E' : Prop} (hgd : o.guard = none) (s x : Operand) (t : TypeId) (ho : o.op = .call { callee := .builtin .append, args := #[s, x], argTypes := #[t, t] })
    (E : Elt P e r.size bytes) (ht : P.underlying t = some (.slice e)) (hs : a.eval s = v) (hown : Own r w base e v l S)
    (T : Nat → Prop) (k : List α) (A : Option Addr) (m c : Nat) (hxv : a.eval x = .slice A m c) (hx : SlV r w T k (.slice A m c)) (hT : ∀ b, T b → v.ownBlock ≠ some b)
    (h63 : l.length + k.length ≤ maxLen) (hbytes : (l.length + k.length) * bytes ≤ 140737488355328) (hbase : base ≤ w.heap.size)
    (h : ∀ v' w', Own r w' base e v' (l ++ k) (fun b => S b ∨ (T b ∧ b < w.heap.size)) → w.grownBy w' v.ownBlock → (v'.ownBlock = v.ownBlock ∨ v'.ownBlock = some w.heap.size) → K (a.put o.dst v') w') :
    if Region.wanted o (yielded ops a.tmps) = true then Oper.wp P o a w K Q else E' := by
  have hw : Region.wanted o (yielded ops a.tmps) = true := by simp [Region.wanted, hgd]
  rw [if_pos hw]
  exact wp_extend hgd s x t ho E ht hs hown T k A m c hxv hx hT h63 hbytes hbase h
end

/-- how many entries are drawn below a directory -/
theorem draw_len_le {t : List Dir} (h : checkE t = 0) (f j row : Nat) (hj : j < t.length) : (drawF t f j row).length ≤ 257 := by
  have hn : ((drawF t f j row).map (·.1)).Nodup := by
    rw [List.Nodup, List.pairwise_map]
    exact (draw_pair h f j row hj).imp fun g => g.1
  have hp : ((drawF t f j row).map (·.1)).Perm ((List.range t.length).filter fun i => decide (i ∈ (drawF t f j row).map (·.1))) := by
    rw [List.perm_ext_iff_of_nodup hn (List.Pairwise.filter _ List.nodup_range)]
    intro x
    rw [List.mem_filter, List.mem_range, decide_eq_true_eq]
    refine ⟨fun hx => ⟨?_, hx⟩, fun hx => hx.2⟩
    obtain ⟨e, he, rfl⟩ := List.mem_map.1 hx
    exact (draw_in h f j row hj e he).lt
  have h1 := hp.length_eq
  have h2 := List.length_filter_le (fun i => decide (i ∈ (drawF t f j row).map (·.1))) (List.range t.length)
  rw [List.length_map] at h1
  rw [List.length_range] at h2
  have := (check_len h).2
  omega

set_option maxHeartbeats 3200000 in
set_option maxRecDepth 100000 in
theorem drawn_any (xs : List Dir) (h : checkE xs = 0) (hlen : ∀ d ∈ xs, d.path.length * 32 ≤ 140737488355328) (hnb : xs.length ≤ 1048576) : ∀ (f : Nat) (A : Option Addr) (n c j row : Nat) (w : World) (S : Nat → Prop), SlV rDir w S xs (.slice A n c) → j < xs.length → xs.length ≤ j + f → row + rowsF xs f j ≤ 257 →
    Calls Tryz.prog 25 #[.agg #[.slice A n c], .int .i64 j, .int .i64 row] w fun e w' => (∃ v, e = .returned v ∧ SlV rSpot w' (fun b => (S b ∧ b < w.heap.size) ∨ w.heap.size ≤ b) ((drawF xs f j row).map (spF xs)) v) ∧ Below w.heap.size w w' := by
  intro f
  induction f with
  | zero => intro A n c j row w S hx hj hf hrow; omega
  | succ f ih =>
    intro A n c j row w S0 hx0 hj hf hrow
    obtain ⟨S, hSS, hx, hSw⟩ : ∃ S : Nat → Prop, (∀ b, S b → S0 b ∧ b < w.heap.size) ∧ SlV rDir w S xs (.slice A n c) ∧ ∀ b, S b → b < w.heap.size := ⟨fun b => S0 b ∧ b < w.heap.size, fun b hb => hb, hx0.more fun b hb hlt => ⟨hb, hlt⟩, fun b hb => hb.2⟩
    suffices hs : Calls Tryz.prog 25 #[.agg #[.slice A n c], .int .i64 j, .int .i64 row] w fun e w' => (∃ v, e = .returned v ∧ SlV rSpot w' (fun b => S b ∨ w.heap.size ≤ b) ((drawF xs (f + 1) j row).map (spF xs)) v) ∧ Below w.heap.size w w' from
      hs.mono fun e w' ⟨⟨v, h1, h2⟩, h3⟩ => ⟨⟨v, h1, h2.more fun b hb _ => by rcases hb with hb | hb; exact .inl (hSS b hb); exact .inr hb⟩, h3⟩
    clear hx0 hSS
    have HSw := Lib.hid hSw; clear hSw
    have HI : Hid (∀ W, Below w.heap.size w W → Calls Tryz.prog 18 #[.agg #[.slice A n c], .int .i64 (j : Int)] W fun e w' => (∃ v, e = .returned v ∧ SlV rInt w' (fun b => W.heap.size ≤ b) (castL (insideI xs (j : Int))) v) ∧ Below W.heap.size W w') := fun W hW => refInside_any _ _ _ xs (j : Int) W _ (hx.belowSize hW) hlen hnb
    have Hbd : Hid (∀ k (hk : k < (insideL xs j).length), row + (sumR (rowsF xs f) ((insideL xs j).take k) + rowsF xs f (insideL xs j)[k]) ≤ 257) := fun k hk => by
      have h1 := sumR_take_lt (r := rowsF xs f) hk
      rw [rowsF, if_neg (fun e => by rw [e] at hk; simp at hk)] at hrow
      omega
    have HR : Hid (∀ (k : Nat) (hk : k < (insideL xs j).length), ∀ W, Below w.heap.size w W → Calls Tryz.prog 44 #[.agg #[.slice A n c], .int .i64 ((insideL xs j)[k] : Int)] W fun e w' => e = .returned (.int .i64 (rowsF xs f (insideL xs j)[k])) ∧ Below W.heap.size W w') := fun k hk W hW => by
      obtain ⟨hk', hjk, _, _⟩ := inside_path h hj (List.getElem_mem hk)
      exact refRows_any xs h hlen hnb f A n c _ W _ (hx.belowSize hW) hk' (by omega)
    have HD : Hid (∀ (k : Nat) (hk : k < (insideL xs j).length), ∀ W, Below w.heap.size w W → Calls Tryz.prog 25 #[.agg #[.slice A n c], .int .i64 ((insideL xs j)[k] : Int), .int .i64 ((row : Int) + (sumR (rowsF xs f) ((insideL xs j).take k) : Nat))] W fun e w' => (∃ v, e = .returned v ∧ SlV rSpot w' (fun b => (S b ∧ b < W.heap.size) ∨ W.heap.size ≤ b) ((drawF xs f (insideL xs j)[k] (row + sumR (rowsF xs f) ((insideL xs j).take k))).map (spF xs)) v) ∧ Below W.heap.size W w') := fun k hk W hW => by
      obtain ⟨hk', hjk, _, _⟩ := inside_path h hj (List.getElem_mem hk)
      have := ih A n c _ (row + sumR (rowsF xs f) ((insideL xs j).take k)) W _ (hx.belowSize hW) hk' (by omega) (by have := Hbd.out k hk; omega)
      rw [Int.natCast_add] at this
      exact this
    have Hsn : Hid (∀ k (hk : k < (insideL xs j).length), sumR (rowsF xs f) ((insideL xs j).take (k + 1)) = sumR (rowsF xs f) ((insideL xs j).take k) + rowsF xs f (insideL xs j)[k]) := fun k hk => sumR_snoc _ hk
    have Hdn : Hid (∀ k (hk : k < (insideL xs j).length), (spF xs (j, row) :: (foldD (drawF xs f) (rowsF xs f) ((insideL xs j).take (k + 1)) row).map (spF xs)) = (spF xs (j, row) :: (foldD (drawF xs f) (rowsF xs f) ((insideL xs j).take k) row).map (spF xs)) ++ (drawF xs f (insideL xs j)[k] (row + sumR (rowsF xs f) ((insideL xs j).take k))).map (spF xs)) := fun k hk => by
      rw [foldD_snoc _ _ hk, List.map_append, List.cons_append]
    have Hle : Hid (∀ k (hk : k < (insideL xs j).length), (spF xs (j, row) :: (foldD (drawF xs f) (rowsF xs f) ((insideL xs j).take k) row).map (spF xs)).length + ((drawF xs f (insideL xs j)[k] (row + sumR (rowsF xs f) ((insideL xs j).take k))).map (spF xs)).length ≤ 514) := fun k hk => by
      have h1 := draw_len_le h (f + 1) j row hj
      have h2 : (foldD (drawF xs f) (rowsF xs f) ((insideL xs j).take k) row).length + (foldD (drawF xs f) (rowsF xs f) ((insideL xs j).drop k) (row + sumR (rowsF xs f) ((insideL xs j).take k))).length = (foldD (drawF xs f) (rowsF xs f) (insideL xs j) row).length := by
        rw [← List.length_append, ← foldD_append, List.take_append_drop]
      rw [drawF, List.length_cons] at h1
      obtain ⟨hk', hjk, _, _⟩ := inside_path h hj (List.getElem_mem hk)
      have h3 := draw_len_le h f (insideL xs j)[k] (row + sumR (rowsF xs f) ((insideL xs j).take k)) hk'
      rw [List.length_cons, List.length_map, List.length_map]
      omega
    have Hfin : Hid ((drawF xs (f + 1) j row).map (spF xs) = spF xs (j, row) :: (foldD (drawF xs f) (rowsF xs f) (insideL xs j) row).map (spF xs)) := by unfold Hid; rw [drawF, List.map_cons]
    have hsp : spF xs (j, row) = ⟨xs[j].path, (xs[j].path.length : Int), (row : Int)⟩ := by unfold spF; simp only [pathL_at hj, dep_at hj]
    have hdj : xs[j].path.length ≤ 257 := by
      have := dep_le h (j + 1) j (by omega) hj
      rw [dep_at hj] at this
      have := (check_len h).2
      omega
    rw [Hfin.out]
    have Hrow : Hid (row ≤ 257) := by unfold Hid; omega
    clear Hfin ih hrow
    rw [insideI_nat] at HI
    generalize insideL xs j = L at *
    obtain ⟨ln, hln⟩ : ∃ ln, ln = L.length := ⟨_, rfl⟩
    have Hln := Lib.hid hln
    clear hln
    have hnx := hx.n_eq
    have hcx := hx.cap_le
    obtain ⟨b, o, cs, hAe, hSb, hb1, hh, hcell⟩ := hx.elem (List.getElem?_eq_getElem hj)
    obtain ⟨s0, s1, s2, s3, rfl, hpp, _, _, _, _, _, _, _, _⟩ := hh
    obtain ⟨pA, pc, rfl, _, _⟩ := hpp.val
    have c1 := hcell 0 _ rfl
    simp only [rDir, Nat.add_zero] at c1
    subst hAe
    have Hpp := Lib.hid hpp
    have hjn : (j : Int) < (n : Int) := by omega
    have hj0 : (0 : Int) ≤ (j : Int) := by omega
    clear hcell hpp hx hnx hcx
    have Hsp := Lib.hid hsp; clear hsp
    obtain ⟨pn, hpn⟩ : ∃ pn, pn = xs[j].path.length := ⟨_, rfl⟩
    rw [← hpn] at c1 Hsp hdj
    have Hpn := Lib.hid hpn; clear hpn
    rw [← Hpn.out] at Hpp
    go_enter Tryz.func25, Tryz.ntmps25
    go_wp2_with fail
    obtain ⟨w0, hw0⟩ : ∃ w0, w0 = w.alloc (.cells #[.slice (some ⟨b, o, none⟩) n c] 24) := ⟨_, rfl⟩
    have hz : w.heap.size < w0.heap.size := by rw [hw0]; simp [go_sem]
    have HB0 : Hid (Below w.heap.size w w0) := by unfold Hid; rw [hw0]; exact bal (Below.refl _ _) _
    have a0 : w0.cell? ⟨w.heap.size, 0, none⟩ = some (.slice (some ⟨b, o, none⟩) n c) := by rw [hw0]; simp [go_sem]
    rw [← hw0]
    clear hw0
    have HA0 := Lib.hid a0
    have c2 := below_cell HB0.out c1 hb1
    go_region_held3 (fun w' => w'.cell? ⟨w.heap.size, 0, none⟩ = some (.slice (some ⟨b, o, none⟩) n c) ∧ w'.cell? ⟨b, o + j * 9, none⟩ = some (.slice pA pn pc)) (first | go_keep) (fail)
    obtain ⟨w1, hw1⟩ : ∃ w1, w1 = (w0.alloc (.cells #[.slice pA pn pc, .int .i64 (pn : Int), .int .i64 (row : Int)] 65)).drew := ⟨_, rfl⟩
    have HB1 : Hid (Below w0.heap.size w0 w1) := by unfold Hid; rw [hw1]; exact ((Below.refl _ _).alloc (Nat.le_refl _) _).drew
    have hz1 : w0.heap.size < w1.heap.size := by rw [hw1]; simp [go_sem]
    have HO1 : Hid (∃ S', (∀ b, S' b → S b ∨ w.heap.size ≤ b) ∧ Own rSpot w1 w0.heap.size 65 (.slice (some ⟨w0.heap.size, 0, none⟩) 1 1) [spF xs (j, row)] S') := by
      rw [Hsp.out, hw1]
      refine ⟨S, fun b hb => .inl hb, Own.drew (Own.lit _ _ (Nat.le_refl _) ?_ (fun b hb => by have := HSw.out b hb; omega))⟩
      refine ⟨_, by rw [Hpn.out], ?_, ?_, ?_⟩
      · rw [← Hpn.out]; exact Hpp.out.belowSize HB0.out
      · show I64 (pn : Int); unfold I64; omega
      · show I64 (row : Int); unfold I64; have := Hrow.out; omega
    rw [← hw1]
    clear hw1 c1 c2 a0 Hpp
    have a1 := below_cell HB1.out HA0.out hz
    go_wp2_with fail
    refine (HI.out w1 (bot HB0.out HB1.out)).mono ?_
    rintro e w2 ⟨⟨v, rfl, hv⟩, B2⟩
    obtain ⟨vA, vc, hve, hvl, hvm⟩ := hv.val
    have hcl : (castL L).length = L.length := by unfold castL; rw [List.length_map]
    have HV : Hid (SlV rInt w2 (fun b => w1.heap.size ≤ b ∧ b < w2.heap.size) (castL L) v) := hv.more fun b hb hlt => ⟨hb, hlt⟩
    clear hv HI a1
    rw [hcl, ← Hln.out] at hve hvl
    unfold maxLen at hvm
    rw [hve] at HV
    subst hve
    clear hcl
    have Q2 : Hid (Below w1.heap.size w1 w2) := B2
    obtain ⟨S1, hS1, ho1⟩ := HO1.out
    have HO2 : Hid (∃ S', (∀ b, S' b → S b ∨ w.heap.size ≤ b) ∧ Own rSpot w2 w0.heap.size 65 (.slice (some ⟨w0.heap.size, 0, none⟩) 1 1) (spF xs (j, row) :: (foldD (drawF xs f) (rowsF xs f) (L.take 0) row).map (spF xs)) S') := ⟨S1, hS1, ho1.keep B2⟩
    have hsz2 := B2.size
    have Hb2 : Hid (Below w0.heap.size w0 w2) := bot HB1.out Q2.out
    clear B2 HO1 hS1 ho1 Hsp Hpn Q2 HB1
    generalize hz0 : w0.heap.size = z0 at *
    have Hz0 := Lib.hid hz0; clear hz0
    go_wp2_with fail
    go_loopw [2, 7, 9] (fun rv ov i wr => ∃ k : Nat, k ≤ ln ∧ i = .int .i64 k ∧ rv = .int .i64 ((row : Int) + (sumR (rowsF xs f) (L.take k) : Nat)) ∧ Hid (∃ S', (∀ b, S' b → S b ∨ w.heap.size ≤ b) ∧ Own rSpot wr z0 65 ov (spF xs (j, row) :: (foldD (drawF xs f) (rowsF xs f) (L.take k) row).map (spF xs)) S') ∧
        Hid (∀ g, ov.ownBlock = some g → g < w1.heap.size ∨ w2.heap.size ≤ g) ∧ Hid (w2.heap.size ≤ wr.heap.size) ∧ Hid (Below z0 w0 wr) ∧ Hid (SlV rInt wr (fun b => w1.heap.size ≤ b ∧ b < w2.heap.size) (castL L) (.slice vA ln vc))) (fun _ _ i _ => ln - (intOf i).toNat)
    case atStart => exact ⟨0, Nat.zero_le _, rfl, by simp [sumR], HO2, fun g hg => by simp [Value.ownBlock] at hg; omega, Nat.le_refl _, Hb2, HV⟩
    case round =>
      clear HO2 HV Hb2
      obtain ⟨k, hk, rfl, rfl, Hown, Hob, Hsz, Hbel, HV⟩ := hrel
      by_cases hlt : k < ln
      case neg =>
        have hke : k = ln := by omega
        have hlt' : ¬ (k : Int) < (ln : Int) := by omega
        have htk : L.take k = L := by rw [hke, Hln.out, List.take_length]
        rw [htk] at Hown
        obtain ⟨S1, hS1, ho1⟩ := Hown.out
        have hsl : SlV rSpot wr (fun b => S b ∨ w.heap.size ≤ b) _ _ := ho1.slv.more fun b hb _ => by
          rcases hb with hb | hb
          · exact hS1 b hb
          · exact .inr (by omega)
        have Hsl := Lib.hid hsl
        clear htk hke hS1 ho1 hsl
        rw [← Hz0.out] at Hbel
        go_wp2_with fail
        go_ret
        exact ⟨⟨_, rfl, Hsl.out⟩, bot HB0.out Hbel.out⟩
      have hkL : k < L.length := by have := Hln.out; omega
      have b0 := below_cell Hbel.out HA0.out hz
      have hzr : z0 ≤ wr.heap.size := by rw [← Hz0.out]; exact Hbel.out.size
      have hbw : Below w.heap.size w wr := by have h1 := Hbel.out; rw [← Hz0.out] at h1; exact bot HB0.out h1
      have hkI : (k : Int) < (ln : Int) := by omega
      have hk0 : (0 : Int) ≤ (k : Int) := by omega
      have hbd := Hbd.out k hkL
      have Hsn2 := Lib.hid (Hsn.out k hkL)
      have Hdn2 := Lib.hid (Hdn.out k hkL)
      have hle := Hle.out k hkL
      obtain ⟨yb, yo, ycs, hAe, hyb, hyl, ⟨rfl, _⟩, hyc⟩ := HV.out.elem (castL_get (List.getElem?_eq_getElem hkL))
      subst hAe
      have y0 := hyc 0 _ rfl
      simp only [rInt, Nat.add_zero, Nat.mul_one] at y0
      clear hyc
      have HD1 := Lib.hid (fun W hW => HD.out k hkL W hW)
      have HR1 := Lib.hid (fun W hW => HR.out k hkL W hW)
      generalize rowsF xs f L[k] = r at *
      generalize hDD : (drawF xs f L[k] (row + sumR (rowsF xs f) (L.take k))).map (spF xs) = D at *
      clear hDD
      generalize sumR (rowsF xs f) (L.take k) = s1 at *
      generalize (spF xs (j, row) :: (foldD (drawF xs f) (rowsF xs f) (L.take k) row).map (spF xs)) = lk at *
      generalize L[k] = y at *
      have hws : IntKind.i64.wrap ((row : Int) + (s1 : Int) + (r : Int)) = (row : Int) + (s1 : Int) + (r : Int) := wrap_small (by rw [show (2 : Nat) ^ 53 = 9007199254740992 from by decide]; omega)
      obtain ⟨S1, hS1, ho1⟩ := Hown.out
      have HS1 := Lib.hid hS1; clear hS1
      have Ho1 := Lib.hid ho1
      have hlo := ho1.lt
      clear ho1 Hown
      have hT : ∀ b, ((S b ∧ b < wr.drew.heap.size) ∨ wr.drew.heap.size ≤ b) → u7.ownBlock ≠ some b := fun b hb e => by
        have h1 := hlo b e
        rcases hb with hb | hb
        · have := HSw.out b hb.1; omega
        · have h2 : wr.heap.size ≤ b := hb
          omega
      have HT := Lib.hid hT; clear hT
      have hf1 : some w.heap.size ≠ u7.ownBlock := fun e => by have := hlo _ e.symm; omega
      have hf2 : some yb ≠ u7.ownBlock := fun e => by have := Hob.out _ e.symm; omega
      have Hf1 := Lib.hid hf1; clear hf1
      have Hf2 := Lib.hid hf2; clear hf2
      have Hlo := Lib.hid hlo; clear hlo
      have hzw : w.heap.size < wr.drew.heap.size := by show w.heap.size < wr.heap.size; omega
      have hyl' : yb < wr.drew.heap.size := hyl
      have c0 : wr.drew.cell? ⟨w.heap.size, 0, none⟩ = some (.slice (some ⟨b, o, none⟩) n c) := b0
      have d0 : wr.drew.cell? ⟨yb, yo + k, none⟩ = some (.int .i64 y) := y0
      have hzz : z0 ≤ wr.heap.size := hzr
      go_wp2_with fail
      go_region_held3 (fun w' => w'.cell? ⟨w.heap.size, 0, none⟩ = some (.slice (some ⟨b, o, none⟩) n c) ∧ w'.cell? ⟨yb, yo + k, none⟩ = some (.int .i64 y))
        (first
          | exact ⟨c0, d0⟩
          | exact ⟨below_cell hb5 c0 hzw, below_cell hb5 d0 hyl'⟩
          | exact ⟨hgrow.cell (below_cell hb5 c0 hzw) Hf1.out, hgrow.cell (below_cell hb5 d0 hyl') Hf2.out⟩)
        (first
          | (go_at_call 25; refine (HD1.out wr.drew hbw.drew).mono ?_; rintro e w5 ⟨⟨v5, rfl, hv5⟩, hb5⟩; obtain ⟨vA5, vc5, rfl, _, _⟩ := hv5.val; have HO5 := Lib.hid ((Own.drew Ho1.out).keep hb5))
          | (refine step_extend (by rfl) _ _ _ (by rfl) elt_refspot Tryz.underlying29 (by rfl) HO5.out _ D _ _ _ (by rfl) hv5 HT.out (by simp [maxLen]; omega) (by omega) (Nat.le_trans hzz hb5.size) ?_; intro v6 w6 hown6 hgrow hat))
      have b6 := hgrow.cell (below_cell hb5 c0 hzw) Hf1.out
      have y6 := hgrow.cell (below_cell hb5 d0 hyl') Hf2.out
      have hd5 : Below z0 w0 w5 := by
        have h1 : Below wr.heap.size wr w5 := (Below.refl _ _).drew.trans hb5
        exact Hbel.out.trans (h1.mono hzr)
      have HB6 : Hid (Below z0 w0 w6) := hd5.grown hgrow (Nat.le_trans hzr hb5.size) (fun g hg => (Hlo.out g hg).1)
      have hbw6 : Below w.heap.size w w6 := by have h1 := HB6.out; rw [← Hz0.out] at h1; exact bot HB0.out h1
      have HV5 : SlV rInt w5 (fun b => w1.heap.size ≤ b ∧ b < w2.heap.size) (castL L) (.slice (some ⟨yb, yo, none⟩) ln vc) := (HV.out.drew).belowSize hb5
      have HV6 : Hid (SlV rInt w6 (fun b => w1.heap.size ≤ b ∧ b < w2.heap.size) (castL L) (.slice (some ⟨yb, yo, none⟩) ln vc)) := HV5.keep fun b hb hl => hgrow.block b hl (fun e => by have := Hob.out b e.symm; omega)
      have hsz56 := Nat.le_trans (show wr.heap.size ≤ w5.heap.size from hb5.size) hgrow.size
      have HO6 : Hid (∃ S', (∀ b, S' b → S b ∨ w.heap.size ≤ b) ∧ Own rSpot w6 z0 65 v6 (lk ++ D) S') := by
        refine ⟨_, fun b hb => ?_, hown6⟩
        rcases hb with hb | ⟨hb, _⟩
        · exact HS1.out b hb
        · rcases hb with hb | hb
          · exact .inl hb.1
          · exact .inr (Nat.le_trans (Nat.le_of_lt hzw) hb)
      have Hob6 : Hid (∀ g, v6.ownBlock = some g → g < w1.heap.size ∨ w2.heap.size ≤ g) := fun g hg => by
        rcases hat with hat | hat
        · exact Hob.out g (by rw [← hat]; exact hg)
        · rw [hat] at hg
          injection hg with hg
          have h1 : wr.heap.size ≤ w5.heap.size := hb5.size
          have := Hsz.out
          omega
      have Hsz6 : Hid (w2.heap.size ≤ w6.heap.size) := by have := Hsz.out; unfold Hid; omega
      have hyl6 : yb < w6.heap.size := cell_lt y6
      have hzw6 : w.heap.size < w6.heap.size := cell_lt b6
      have H2 := Lib.hid (qcall (w := w6) (fun W hW => HR1.out W (bot hbw6 hW)))
      clear b0 y0 c0 d0 hb5 hgrow hat hown6 hv5 HO5 HV5 hd5 hbw Hbel HV Hob Hsz HD1 HR1 hle Ho1 HS1 HT Hf1 Hf2 Hlo hzw hyl'
      go_wp2_with fail
      have r_b6 := cell_regrown b6
      have r_y6 := cell_regrown y6
      go_wp2_with fail
      refine wp_region_qb (by kernel_rfl) (by kernel_rfl) ?_
      repeat (go_big_quiet_step (first | (with_reducible exact H2.out _ _)))
      refine wpQuiet_nil ?_
      intro w7 B7
      obtain ⟨S6, hS6, ho6⟩ := HO6.out
      have HO7 : Hid (∃ S', (∀ b, S' b → S b ∨ w.heap.size ≤ b) ∧ Own rSpot w7 z0 65 v6 (lk ++ D) S') := ⟨S6, hS6, ho6.keep B7⟩
      have HB7 : Hid (Below z0 w0 w7) := HB6.out.trans (B7.mono (Nat.le_trans hzz (by omega)))
      have HV7 := Lib.hid (HV6.out.belowSize B7)
      have Hsz7 : Hid (w2.heap.size ≤ w7.heap.size) := Nat.le_trans Hsz6.out B7.size
      clear hS6 ho6 HO6 HB6 HV6 Hsz6 B7 H2 b6 y6 r_b6 r_y6 hbw6
      go_wp2_with fail
      go_roundw
      case rel => exact ⟨k + 1, by omega, by go_num, by rw [Hsn2.out]; go_num, by rw [Hdn2.out]; exact HO7.out, Hob6, Hsz7, HB7, HV7⟩
      case measure => simp [intOf]; omega
end Go.Proofs.YtkpbnbnfgadkcaaGreatDoor
