/-
  Runs of ranks joined: span.joined, walked.
-/
import Derived.Test.YtghihopmiagcpaaGreatDoorSpanK
set_option autoImplicit false
set_option relaxedAutoImplicit false
set_option linter.unusedVariables false
set_option linter.unusedSimpArgs false
namespace Go.Proofs.YtghihopmiagcpaaGreatDoor
open Go.Rows Go.RowKit Go.Shelf Go.Sort

theorem nrm_mem : ∀ {l : List Rk} {a : Int} {x : Rk}, Nrm a l → x ∈ l → a ≤ x.1 ∧ x.1 ≤ x.2 := by
  intro l
  induction l with
  | nil => intro a x _ h; simp at h
  | cons y l ih =>
    intro a x h hx
    obtain ⟨h1, h2, h3⟩ := h
    rcases List.mem_cons.1 hx with rfl | hx
    · exact ⟨h1, h2⟩
    · have := ih h3 hx; omega
theorem In0.take {l : List Rk} (h : In0 l) (k : Nat) : In0 (l.take k) := fun x hx => h x (List.mem_of_mem_take hx)
theorem mergeL_in {l : List Rk} (h : In0 l) (hs : l.Pairwise (fun x y => x.1 ≤ y.1)) : In0 (mergeL l) := fun x hx => by
  obtain ⟨h1, h2, _⟩ := mergeL_has l (fun y hy => ⟨(h y hy).1, (h y hy).2.1⟩) hs
  obtain ⟨q1, q2⟩ := nrm_mem h1 hx
  obtain ⟨y, hy, _, hy2⟩ := (h2 x.2).1 ⟨x, hx, q2, Int.le_refl _⟩
  have := h y hy
  omega
theorem mergeS_len (out : List Rk) (x : Rk) : (mergeS out x).length ≤ out.length + 1 := by
  rcases list_snoc out with rfl | ⟨i, y, rfl⟩
  · simp [mergeS_nil]
  · rw [mergeS_snoc]; split <;> simp
theorem mergeL_take {l : List Rk} {k : Nat} (h : k < l.length) : mergeL (l.take (k + 1)) = mergeS (mergeL (l.take k)) l[k] := by
  rw [List.take_succ_eq_append_getElem h, mergeL_snoc]
theorem mergeL_len (l : List Rk) : ∀ k, k ≤ l.length → (mergeL (l.take k)).length ≤ k := by
  intro k
  induction k with
  | zero => intro _; simp [mergeL]
  | succ k ih =>
    intro h
    rw [mergeL_take (by omega)]
    have := ih (by omega)
    have := mergeS_len (mergeL (l.take k)) (l[k]'(by omega))
    omega
theorem perm_has {l m : List Rk} (h : l.Perm m) (n : Int) : Has l n ↔ Has m n := ⟨fun ⟨x, hx, q⟩ => ⟨x, h.mem_iff.1 hx, q⟩, fun ⟨x, hx, q⟩ => ⟨x, h.mem_iff.2 hx, q⟩⟩

/-- the last run's end is written over -/
theorem own_set_last {w : World} {base : Nat} {e : TypeId} {g n cap : Nat} {l : List Rk} {y : Rk} (h : Own rRnk w base e (.slice (some ⟨g, 0, none⟩) (n + 1) cap) (l ++ [y]) (fun _ => False)) (hl : l.length = n) {z : Int} (hz : I64 z) :
    Own rRnk (w.setCell ⟨g, n * 2 + 1, none⟩ (.int .i64 z)) base e (.slice (some ⟨g, 0, none⟩) (n + 1) cap) (l ++ [(y.1, z)]) (fun _ => False) := by
  obtain ⟨_, xs, ⟨q0, q⟩, hE⟩ := h
  have key : ∀ {l : List Rk} {xs : List Value}, Elems rRnk w (fun _ => False) (l ++ [y]) xs → ∃ ys, xs = ys ++ [.int .i64 y.1, .int .i64 y.2] ∧ Elems rRnk w (fun _ => False) l ys ∧ I64 y.1 := by
    intro l
    induction l with
    | nil =>
      intro xs hx
      obtain ⟨cs, rest, h1, ⟨rfl, hi, _⟩, h3⟩ := hx
      rw [show rest = [] from h3, List.append_nil] at h1
      exact ⟨[], h1, rfl, hi⟩
    | cons x l ih =>
      intro xs hx
      obtain ⟨cs, rest, h1, h2, h3⟩ := hx
      obtain ⟨ys, rfl, h4, h5⟩ := ih h3
      exact ⟨cs ++ ys, by rw [h1, List.append_assoc], ⟨cs, ys, rfl, h2, h4⟩, h5⟩
  obtain ⟨ys, rfl, hEl, hy1⟩ := key hE
  have hyl : ys.length = n * 2 := by have := hEl.length; rw [hl] at this; exact this
  refine ⟨fun b hb => hb.elim, ys ++ [.int .i64 y.1, .int .i64 z], ⟨by simpa using q0, ?_⟩, Elems.append (Elems.one_ (r := rRnk) (x := (y.1, z)) (cs := [.int .i64 y.1, .int .i64 z]) ⟨rfl, hy1, hz⟩) (hEl.mono fun b hb _ => hb.elim)⟩
  rcases q with ⟨q, _⟩ | ⟨g', cap', cur, q, hbg, hg, hnc, hcm, hcs, htk⟩
  · cases q
  · simp only [Value.slice.injEq, Option.some.injEq, Addr.mk.injEq] at q
    obtain ⟨⟨rfl, _⟩, _, rfl⟩ := q
    refine .inr ⟨g, cap, cur.setIfInBounds (n * 2 + 1) (.int .i64 z), by rw [List.length_append, hl]; rfl, hbg, heap_set1 hg _, by simpa using hnc, hcm, by rw [Array.size_setIfInBounds]; exact hcs, ?_⟩
    have e1 : (l ++ [(y.1, z)]).length * rRnk.size = (l ++ [y]).length * rRnk.size := by simp
    rw [e1, Array.toList_setIfInBounds, List.take_set, htk, List.set_append_right _ _ (by omega), hyl, show n * 2 + 1 - n * 2 = 1 from by omega]
    rfl

set_option maxHeartbeats 4000000 in
set_option maxRecDepth 100000 in
theorem joined_any (A : Option Addr) (n c : Nat) (l : List Rk) (w : World) (hl : SlV rRnk w (fun b => b < w.heap.size) l (.slice A n c)) (hin : In0 l) (hm : l.length ≤ 1000000) :
    Calls Tryz.prog 44 #[.slice A n c] w fun e w' => ∃ v, e = .returned v ∧ SlV rRnk w' (fun b => w.heap.size ≤ b) (canon (Has l)) v ∧ Below w.heap.size w w' := by
  have Hv := Lib.hid (valuesRk_any A n c w)
  have Hs : Hid (∀ W, W = w.alloc (.cells #[.slice A n c] 54) → Calls Tryz.prog 67 #[.func (.func 92) #[] #[.pointer (some ⟨w.heap.size, 0, none⟩)], .func (.func 69) #[] #[]] W fun e w' =>
      ∃ v l', e = .returned v ∧ l'.Perm l ∧ l'.Pairwise (fun x y => x.1 ≤ y.1) ∧ SlV rRnk w' (fun b => W.heap.size ≤ b) l' v ∧ Below W.heap.size W w') := fun W hW => by
    refine sortedRk_any w.heap.size A n c l W (by rw [hW]; simp [go_sem]) (by rw [hW]; exact (hl.alloc _).more fun b hb _ => by have : b < w.heap.size := hb; simp; omega) (fun x hx => ?_) (fun x hx => ?_) hm
    · have := hin x hx; unfold lastR at this; omega
    · have := hin x hx; unfold I64; unfold lastR at this; omega
  have Hin := Lib.hid hin
  have Hm := Lib.hid hm
  clear hl hin hm
  go_enter Tryz.func44, Tryz.ntmps44
  go_wp2_with fail
  refine Hv.out.mono ?_
  rintro e w0 ⟨rfl, hw0⟩
  have HB0 : Hid (Below w.heap.size w w0) := by unfold Hid; rw [hw0]; exact bal (Below.refl _ _) _
  have Hs0 := Lib.hid (Hs.out w0 hw0)
  clear hw0 Hs Hv
  go_wp2_with fail
  refine Hs0.out.mono ?_
  rintro e w1 ⟨v, l', rfl, hp, hso, hv, hb1⟩
  have HB1 := Lib.hid (bot HB0.out hb1)
  have HB01 := Lib.hid HB0.out.size
  have Hin' : Hid (In0 l') := fun x hx => Hin.out x (hp.mem_iff.1 hx)
  have Hso := Lib.hid hso
  have Hmm : Hid (l'.length ≤ 1000000) := by unfold Hid; rw [hp.length_eq]; exact Hm.out
  have Hres : Hid (mergeL l' = canon (Has l)) := by
    obtain ⟨h1, h2, _⟩ := mergeL_has l' (fun y hy => ⟨(Hin'.out y hy).1, (Hin'.out y hy).2.1⟩) hso
    exact (canon_is h1 fun n => (h2 n).trans (perm_has hp n)).symm
  obtain ⟨A1, c1, rfl, _, hc1m⟩ := hv.val
  have HV := Lib.hid (hv.more (S' := fun b => b < w1.heap.size) fun b _ h => h)
  have Hll : Hid (l'.length = l'.length) := rfl
  clear Hs0 hb1 hv hp hso HB0 Hin Hm
  obtain ⟨m, hmz⟩ : ∃ m, m = l'.length := ⟨_, rfl⟩
  rw [← hmz] at HV Hmm
  rw [← hmz]
  have Hmz := Lib.hid hmz
  have hm63 := Hmm.out
  clear hmz Hll
  go_wp2_with fail
  go_loopw [3, 12] (fun v i wr => ∃ k : Nat, k ≤ m ∧ i = .int .i64 k ∧ Hid (Own rRnk wr w1.heap.size 59 v (mergeL (l'.take k)) (fun _ => False)) ∧ Hid (Below w1.heap.size w1 wr)) (fun _ i _ => m - (intOf i).toNat)
  case atStart => exact ⟨0, Nat.zero_le _, rfl, Own.nil_ _ _ _ _ (fun b hb => hb.elim), Below.refl _ _⟩
  case round =>
    obtain ⟨k, hk, rfl, Hown, HB⟩ := hrel
    by_cases hlt : k < m
    case neg =>
      have hlt' : ¬ (k : Int) < (m : Int) := by omega
      have Hsl := Lib.hid Hown.out.slv
      rw [List.take_of_length_le (by have := Hmz.out; omega), Hres.out] at Hsl
      go_wp2_with fail
      go_ret
      exact ⟨_, rfl, Hsl.out.more (fun b hb _ => by rcases hb with h | h; exact h.elim; exact Nat.le_trans HB1.out.size h), HB1.out.trans (HB.out.mono HB1.out.size)⟩
    have hkx : k < l'.length := by have := Hmz.out; omega
    have hkI : (k : Int) < (m : Int) := by omega
    have hk0 : (0 : Int) ≤ (k : Int) := by omega
    obtain ⟨b1, o1, cs1, rfl, hs1, _, ⟨rfl, hi1, hi2⟩, hcell1⟩ := HV.out.elem (List.getElem?_eq_getElem hkx)
    have c0 := below_cell HB.out (hcell1 0 _ rfl) hs1
    have c1 := below_cell HB.out (hcell1 1 _ rfl) hs1
    simp only [rRnk, Nat.add_zero] at c0 c1
    have Htk := Lib.hid (mergeL_take hkx)
    have hlen := mergeL_len l' k (by omega)
    have Hmin := Lib.hid (mergeL_in (Hin'.out.take k) (List.Pairwise.sublist (List.take_sublist _ _) Hso.out))
    obtain ⟨r1, r2, r3⟩ := Hin'.out l'[k] (List.getElem_mem hkx)
    clear hcell1
    generalize l'[k] = x at *
    obtain ⟨x1, x2⟩ := x
    simp only at c0 c1 hi1 hi2 r1 r2 r3 Htk
    have hbw := HB.out.size
    obtain ⟨w5, hw5⟩ : ∃ w5, w5 = wr.alloc (.cells #[.int .i64 x1, .int .i64 x2] 59) := ⟨_, rfl⟩
    have HO1 := Lib.hid (Hown.out.alloc (.cells #[.int .i64 x1, .int .i64 x2] 59))
    rw [← hw5] at HO1
    have HBa : Hid (Below w1.heap.size w1 w5) := by rw [hw5]; exact bal HB.out _
    have d0 : w5.cell? ⟨wr.heap.size, 0, none⟩ = some (.int .i64 x1) := by rw [hw5]; simp [go_sem]
    have d1 : w5.cell? ⟨wr.heap.size, 1, none⟩ = some (.int .i64 x2) := by rw [hw5]; simp [go_sem]
    have hz5 : w5.heap.size = wr.heap.size + 1 := by rw [hw5]; simp
    rcases list_snoc (mergeL (l'.take k)) with hnil | ⟨I, y, hsn⟩
    · rw [hnil, mergeS_nil] at Htk
      rw [hnil] at HO1
      obtain ⟨A2, c2, hve, _, _⟩ := HO1.out.slv.val
      simp only [List.length_nil] at hve
      subst hve
      have hw1 : IntKind.i64.wrap ((0 : Int) - 1) = -1 := rfl
      clear hnil Hown hlen Hmin
      go_wp2_with fail
      rw [← hw5]
      clear hw5 c0 c1
      have r_d0 := cell_regrown d0
      have r_d1 := cell_regrown d1
      go_wp2_with fail
      refine wp_region_qb (by kernel_rfl) (by kernel_rfl) ?_
      repeat (go_big_quiet_step (first | fail))
      refine wpQuiet_nil ?_
      intro w6 B6
      focus
        have HO6 := Lib.hid (HO1.out.keep B6)
        have HB6 : Hid (Below w1.heap.size w1 w6) := bot HBa.out B6
        have e0 := below_cell B6 d0 (cell_lt d0)
        have e1 := below_cell B6 d1 (cell_lt d1)
        have hz6 := HB6.out.size
        clear d0 d1 r_d0 r_d1 B6 HO1 HBa
        go_wp2_with (at_builtin; refine wpList_push (by rfl) _ _ _ (by rfl) elt_rnk Tryz.underlying54 (by rfl) (HO6.out.alloc _) ⟨w6.heap.size, 0, none⟩ 1 [.int .i64 x1, .int .i64 x2] (x1, x2) (by rfl) ⟨rfl, hi1, hi2⟩ (news_of w6 #[.int .i64 x1, .int .i64 x2] _) (by simp [maxLen]) (by simp) (by simp; omega) (w6.heap.size + 1) (by simp) ?_)
        intro g cap w7 hown7 hgrow hat hg7
        have HB7 : Hid (Below w1.heap.size w1 w7) := bgrown (bal HB6.out _) hgrow (HO6.out.alloc _) (Nat.le_refl _)
        have HO7 : Hid (Own rRnk w7 w1.heap.size 59 (.slice (some ⟨g, 0, none⟩) 1 cap) (mergeL (l'.take (k + 1))) (fun _ => False)) := by unfold Hid; rw [Htk.out]; exact hown7
        clear hown7 hgrow hat hg7
        go_wp2_with fail
        go_roundw
        case rel => exact ⟨k + 1, by omega, by go_num, HO7, HB7⟩
        case measure => simp [intOf]; omega
    · rw [hsn, mergeS_snoc] at Htk
      rw [hsn] at HO1 hlen Hmin
      rw [List.length_append, List.length_singleton] at hlen
      obtain ⟨y1, y2⟩ := y
      simp only at Htk
      obtain ⟨s1, s2, s3⟩ := Hmin.out (y1, y2) (by simp)
      simp only at s1 s2 s3
      unfold lastR at s3 r3
      obtain ⟨A2, c2, hve, _, _⟩ := HO1.out.slv.val
      obtain ⟨q, hq⟩ : ∃ q, q = I.length := ⟨_, rfl⟩
      rw [List.length_append, List.length_singleton, ← hq] at hve
      rw [← hq] at hlen
      rw [hve] at HO1
      obtain ⟨g, hgv⟩ : ∃ g, A2 = some (⟨g, 0, none⟩ : Addr) := by
        obtain ⟨_, xs, ⟨_, qq⟩, _⟩ := HO1.out
        rcases qq with ⟨e, _⟩ | ⟨g', cap', cur, e, _⟩
        · cases e
        · simp only [Value.slice.injEq] at e
          exact ⟨g', e.1⟩
      subst hgv
      subst hve
      have hxq : (I ++ [(y1, y2)])[q]? = some (y1, y2) := by rw [hq, List.getElem?_append_right (Nat.le_refl _), Nat.sub_self]; rfl
      obtain ⟨gb, go, gcs, hge, hgS, _, ⟨rfl, _⟩, hgc⟩ := HO1.out.slv.elem hxq
      clear hxq
      simp only [Option.some.injEq, Addr.mk.injEq] at hge
      obtain ⟨rfl, rfl, _⟩ := hge
      have hgb : w1.heap.size ≤ g := by rcases hgS with e | e; exact e.elim; exact e
      have hne5 : g ≠ wr.heap.size := fun e => by have := (Hown.out.lt g rfl).2; omega
      have f1 := hgc 1 _ rfl
      simp only [rRnk, Nat.zero_add] at f1
      clear hgc hgS Hown hsn Hmin
      obtain ⟨ql, hql⟩ : ∃ ql, ql = q + 1 := ⟨_, rfl⟩
      rw [← hql] at HO1 hlen
      rw [← hql]
      have hw1 : IntKind.i64.wrap ((ql : Int) - 1) = (q : Int) := by rw [IntWalk.i64_in _ ⟨by omega, by omega⟩]; omega
      have hw2 : IntKind.i64.wrap (y2 + 1) = y2 + 1 := IntWalk.i64_in _ ⟨by omega, by omega⟩
      have hqI : (q : Int) < (ql : Int) := by omega
      have hq0 : (0 : Int) ≤ (q : Int) := by omega
      have Hq := Lib.hid hq
      have Hql := Lib.hid hql
      clear hq hql
      go_wp2_with fail
      rw [← hw5]
      clear hw5 c0 c1
      have r_d0 := cell_regrown d0
      have r_d1 := cell_regrown d1
      have r_f1 := cell_regrown f1
      go_wp2_with fail
      refine wp_region_qb (by kernel_rfl) (by kernel_rfl) ?_
      repeat (go_big_quiet_step (first | fail))
      refine wpQuiet_nil ?_
      intro w6 B6
      focus
        have HO6 := Lib.hid (HO1.out.keep B6)
        have HB6 : Hid (Below w1.heap.size w1 w6) := bot HBa.out B6
        have e0 := below_cell B6 d0 (cell_lt d0)
        have e1 := below_cell B6 d1 (cell_lt d1)
        have g1 := below_cell B6 f1 (cell_lt f1)
        have hz6 := HB6.out.size
        clear d0 d1 f1 r_d0 r_d1 r_f1 B6 HO1 HBa
        by_cases hle : x1 ≤ y2 + 1
        · rw [if_pos hle] at Htk
          have hmxy := mx_max y2 x2
          have HIm : Hid (I64 (max y2 x2)) := by unfold Hid I64 at *; omega
          have HS : Hid (∀ W, W.heap[g]? = w6.heap[g]? → Own rRnk W w1.heap.size 59 (.slice (some ⟨g, 0, none⟩) ql c2) (I ++ [(y1, y2)]) (fun _ => False) → Own rRnk (W.setCell ⟨g, q * 2 + 1, none⟩ (.int .i64 (max y2 x2))) w1.heap.size 59 (.slice (some ⟨g, 0, none⟩) ql c2) (mergeL (l'.take (k + 1))) (fun _ => False)) := fun W _ ho => by
            rw [Htk.out]
            rw [Hql.out] at ho ⊢
            exact own_set_last ho Hq.out.symm HIm.out
          have fg : w6.frozen? ⟨g, q * 2 + 1, none⟩ = false := by
            obtain ⟨_, xs, ⟨_, qq⟩, _⟩ := HO6.out
            rcases qq with ⟨e, _⟩ | ⟨g', cap', cur, e, _, hg', _⟩
            · cases e
            · simp only [Value.slice.injEq, Option.some.injEq, Addr.mk.injEq] at e
              obtain ⟨⟨rfl, _⟩, _⟩ := e
              simp [World.frozen?, hg']
          go_wp2_with fail
          go_region_law (fail)
          all_goals
            have HO7 := Lib.hid (HS.out w6.drew rfl HO6.out.drew)
            have HB7 : Hid (Below w1.heap.size w1 (w6.drew.setCell ⟨g, q * 2 + 1, none⟩ (.int .i64 (max y2 x2)))) := (HB6.out.trans (Below.refl _ _).drew).setCell (p := ⟨g, q * 2 + 1, none⟩) hgb _
            clear e0 e1 g1 fg HS HO6 HB6
            go_wp2_with fail
            go_roundw
            case rel => exact ⟨k + 1, by omega, by go_num, HO7, HB7⟩
            case measure => simp [intOf]; omega
        · rw [if_neg hle] at Htk
          obtain ⟨OL, hOL⟩ : ∃ OL, OL = I ++ [(y1, y2)] := ⟨_, rfl⟩
          have hol : OL.length = ql := by rw [hOL, List.length_append, List.length_singleton, ← Hq.out, Hql.out]
          rw [← hOL] at Htk HO6
          have Hol := Lib.hid hol
          clear hol hOL
          go_wp2_with (at_builtin; refine wpList_push (by rfl) _ _ _ (by rfl) elt_rnk Tryz.underlying54 (by rfl) (HO6.out.alloc _) ⟨w6.heap.size, 0, none⟩ 1 [.int .i64 x1, .int .i64 x2] (x1, x2) (by rfl) ⟨rfl, hi1, hi2⟩ (news_of w6 #[.int .i64 x1, .int .i64 x2] _) (by rw [Hol.out]; unfold maxLen; omega) (by rw [Hol.out]; omega) (by simp; omega) (w6.heap.size + 1) (by simp) ?_)
          intro g7 cap w7 hown7 hgrow hat hg7
          have HB7 : Hid (Below w1.heap.size w1 w7) := bgrown (bal HB6.out _) hgrow (HO6.out.alloc _) (Nat.le_refl _)
          have HO7 := Lib.hid hown7
          rw [← Htk.out] at HO7
          clear hown7 hgrow hat hg7
          go_wp2_with fail
          go_roundw
          case rel => exact ⟨k + 1, by omega, by go_num, HO7, HB7⟩
          case measure => simp [intOf]; omega
end Go.Proofs.YtghihopmiagcpaaGreatDoor
