/-
  Where the document tries all places at which a set may begin or end: walked.
-/
import Derived.Test.YtldjldkejjeamaaGreatDoorFoldP
import Derived.Test.YtldjldkejjeamaaGreatDoorSpanH
set_option autoImplicit false
set_option relaxedAutoImplicit false
set_option linter.unusedVariables false
set_option linter.unusedSimpArgs false
namespace Go.Proofs.YtldjldkejjeamaaGreatDoor
open Go.Rows Go.RowKit Go.Shelf Go.Sort

/-- a cell that is loaded, and what has turned: through a call, through an append -/
theorem keep1 {W w' w1 : World} {A o : Nat} {v : Value} (hb : Below w'.heap.size w' w1) (h0 : w'.cell? ⟨A, o, none⟩ = some v) (hB : Below W.heap.size W w') : w1.cell? ⟨A, o, none⟩ = some v ∧ Below W.heap.size W w1 :=
  ⟨below_cell hb h0 (cell_lt h0), bot hB hb⟩
theorem keep1g {W w' w1 : World} {own : Option Nat} {A o : Nat} {v : Value} (hg : w'.grownBy w1 own) (hf : ∀ g, own = some g → W.heap.size ≤ g) (hA : A < W.heap.size) (h0 : w'.cell? ⟨A, o, none⟩ = some v) (hB : Below W.heap.size W w') : w1.cell? ⟨A, o, none⟩ = some v ∧ Below W.heap.size W w1 :=
  ⟨(cell_same (hg.block A (cell_lt h0) (fun e => by have := hf A e.symm; omega)) _ _).trans h0, hB.grown hg hB.size hf⟩

set_option maxHeartbeats 4000000 in
set_option maxRecDepth 100000 in
theorem folded_any (kind : Nat) (hk : kind = 109 ∨ kind = 106 ∨ kind = 99) (A B : Option Addr) (n m c d : Nat) (xa xb : List Spn) (w : World) (S T : Nat → Prop) (hx : SlV rSpn w S xa (.slice A n c)) (hy : SlV rSpn w T xb (.slice B m d))
    (ha : In0 (rks xa)) (hb : In0 (rks xb)) (hla : xa.length ≤ 100000) (hlb : xb.length ≤ 100000) :
    Calls Tryz.prog 58 #[.int .u8 (kind : Int), .slice A n c, .slice B m d] w fun e w' => ∃ v, e = .returned (.tuple #[v, .int .i64 (fitR (foldedF kind (rks xa) (rks xb))).2]) ∧ SlV rSpn w' (fun xb => w.heap.size ≤ xb) (fitR (foldedF kind (rks xa) (rks xb))).1 v ∧ Below w.heap.size w w' := by
  have HX := Lib.hid (hx.more (S' := fun xb => xb < w.heap.size) fun xb _ h => h)
  have HY := Lib.hid (hy.more (S' := fun xb => xb < w.heap.size) fun xb _ h => h)
  have Ha : Hid (∀ W x, Below w.heap.size w W → Calls Tryz.prog 95 #[.slice A n c, .int .i64 x] W fun e w' => e = .returned (.bool (hasB (rks xa) x)) ∧ Below W.heap.size W w') := fun W x hW => has_any A n c xa x W _ (HX.out.belowSize hW)
  have Hb : Hid (∀ W x, Below w.heap.size w W → Calls Tryz.prog 95 #[.slice B m d, .int .i64 x] W fun e w' => e = .returned (.bool (hasB (rks xb) x)) ∧ Below W.heap.size W w') := fun W x hW => has_any B m d xb x W _ (HY.out.belowSize hW)
  have Hw : Hid (∀ W x y, Calls Tryz.prog 94 #[.int .u8 (kind : Int), .bool x, .bool y] W fun e w' => e = .returned (.bool (wantB kind x y)) ∧ Below W.heap.size W w') := fun W x y => wanted_any kind hk x y W
  have Hat : Hid (∀ W z, 0 ≤ z → z ≤ 999999999 → Calls Tryz.prog 90 #[.int .i64 z] W fun e w' => e = .returned (.agg #[.int .i64 (z / 1000 / 1000), .int .i64 (z / 1000 % 1000), .int .i64 (z % 1000)]) ∧ Below W.heap.size W w') := fun W z h0 h1 => refAt03_any z h0 h1 W
  have Hsort : Hid ((endsF (endsF [0, lastR + 1] (rks xa)) (rks xb)).Pairwise (· < ·)) := endsF_sorted (endsF_sorted (by simp [lastR]))
  have Hrng : Hid (∀ z ∈ endsF (endsF [0, lastR + 1] (rks xa)) (rks xb), 0 ≤ z ∧ z ≤ lastR + 1) := fun z hz => by
    rw [mem_endsF, mem_endsF] at hz
    simp only [List.mem_cons, List.not_mem_nil, or_false] at hz
    rcases hz with ((rfl | rfl) | ⟨x, hx, h⟩) | ⟨x, hx, h⟩
    · unfold lastR; omega
    · unfold lastR; omega
    · have := ha x hx; omega
    · have := hb x hx; omega
  have l1 := endsF_len (rks xa) [0, lastR + 1]
  have l2 := endsF_len (rks xb) (endsF [0, lastR + 1] (rks xa))
  have Hl1 : Hid (0 < (endsF [0, lastR + 1] (rks xa)).length ∧ (endsF [0, lastR + 1] (rks xa)).length + 2 * xb.length ≤ 1000000) := by
    rw [rks_len] at l1; simp only [List.length_cons, List.length_nil] at l1; exact ⟨by omega, by omega⟩
  have Hl2 : Hid ((endsF (endsF [0, lastR + 1] (rks xa)) (rks xb)).length ≤ 500000) := by
    rw [rks_len] at l1 l2; simp only [List.length_cons, List.length_nil] at l1; unfold Hid; omega
  have Hs1 : Hid ((endsF [0, lastR + 1] (rks xa)).Pairwise (· < ·)) := endsF_sorted (by simp [lastR])
  have Hla := Lib.hid hla
  obtain ⟨q, hq⟩ : ∃ q : Int → Bool, q = fun n => wantB kind (hasB (rks xa) n) (hasB (rks xb) n) := ⟨_, rfl⟩
  have Hq : Hid (∀ x, wantB kind (hasB (rks xa) x) (hasB (rks xb) x) = q x) := fun x => by rw [hq]
  have hF : foldedF kind (rks xa) (rks xb) = foldGo q (endsF (endsF [0, lastR + 1] (rks xa)) (rks xb)) (-1) := by rw [hq]; rfl
  obtain ⟨FF, hFF⟩ : ∃ FF, FF = foldedF kind (rks xa) (rks xb) := ⟨_, rfl⟩
  rw [← hFF] at hF ⊢
  have HF := Lib.hid hF
  obtain ⟨QQ, hQQ⟩ : ∃ QQ : List Spn × Int, QQ = fitR FF := ⟨_, rfl⟩
  rw [← hQQ]
  have HQQ := Lib.hid hQQ
  clear hQQ
  clear hF hFF hq hx hy hla hlb l1 l2 ha hb hk
  go_enter Tryz.func58, Tryz.ntmps58
  go_wp2_with fail
  refine (ends_any w.heap.size 0 2 2 A n c [0, lastR + 1] xa _ (fun _ => True) _ (by simp [lastR]) (by simp) (by have := Hla.out; simp only [List.length_cons, List.length_nil]; omega)
    (SlV.of_block (g := w.heap.size) (cs := #[.int .i64 0, .int .i64 1000000000]) (heap_alloc_new w _) (Elems.append (l := [0]) (k := [lastR + 1]) (xs := [.int .i64 0]) (ys := [.int .i64 1000000000]) (Elems.one_ (r := rInt) (x := lastR + 1) (cs := [.int .i64 1000000000]) ⟨rfl, by unfold I64 lastR; decide⟩) (Elems.one_ (r := rInt) (x := 0) (cs := [.int .i64 0]) ⟨rfl, by unfold I64; decide⟩)) trivial rfl (by simp) (by unfold maxLen; decide))
    (HX.out.alloc _)).mono ?_
  rintro e w1 ⟨v1, rfl, hv1, hb1⟩
  obtain ⟨b1, o1, c1, rfl⟩ := slvI_some hv1 Hl1.out.1
  have HV1 := Lib.hid hv1
  have HB1 := Lib.hid (bnew hb1)
  clear hv1 hb1
  go_wp2_with fail
  refine (ends_any b1 o1 _ c1 B m d (endsF [0, lastR + 1] (rks xa)) xb w1 _ _ Hs1.out Hl1.out.1 Hl1.out.2 HV1.out (HY.out.belowSize HB1.out)).mono ?_
  rintro e w2 ⟨v2, rfl, hv2, hb2⟩
  have HB2 := Lib.hid (bot HB1.out hb2)
  clear hb2 HV1 HB1 Hl1 Hs1 Hla
  generalize endsF (endsF [0, lastR + 1] (rks xa)) (rks xb) = L at *
  obtain ⟨A2, c2, rfl, _, _⟩ := hv2.val
  have HL := Lib.hid (hv2.more (S' := fun xb => xb < w2.heap.size) fun xb _ h => h)
  clear hv2
  obtain ⟨ln, hln⟩ : ∃ ln, ln = L.length := ⟨_, rfl⟩
  rw [← hln] at HL ⊢
  have hl5 : ln ≤ 500000 := by have := Hl2.out; omega
  have Hln := Lib.hid hln
  clear hln
  go_wp2_with fail
  go_loopw [9, 10, 11] (fun v f i wr => ∃ (k : Nat) (fr : Int) (done : List Rk), k ≤ ln ∧ i = .int .i64 k ∧ f = .int .i64 fr ∧ (fr = -1 ∨ (0 ≤ fr ∧ fr ≤ lastR ∧ ∀ y ∈ L.drop k, fr < y)) ∧ done.length ≤ k ∧ Hid (FF = done ++ foldGo q (L.drop k) fr) ∧ Hid (Own rSpn wr w2.heap.size 40 v (done.map spnAt) (fun _ => False)) ∧ Hid (Below w2.heap.size w2 wr)) (fun _ _ i _ => ln - (intOf i).toNat)
  case atStart => exact ⟨0, -1, [], Nat.zero_le _, rfl, rfl, .inl rfl, Nat.zero_le _, HF, Own.nil_ _ _ _ _ (fun xb hb => hb.elim), Below.refl _ _⟩
  case round =>
    obtain ⟨k, fr, done, hk, rfl, rfl, hfr, hdl, Hm, Hown, HB⟩ := hrel
    by_cases hlt : k < ln
    case neg =>
      have hm : FF = done := by
        rw [Hm.out, List.drop_eq_nil_of_le (by have := Hln.out; omega), foldGo, List.append_nil]
      subst hm
      have hlt' : ¬ (k : Int) < (ln : Int) := by omega
      have hs := Hown.out.slvB.more (S' := fun xb => w.heap.size ≤ xb) fun xb hb _ => Nat.le_trans HB2.out.size hb
      obtain ⟨A3, c3, rfl, _, _⟩ := hs.val
      rw [List.length_map] at hs
      have HS := Lib.hid hs
      have hfit : fitR FF = if FF.length ≤ 64 then (FF.map spnAt, 0) else ([], 26) := rfl
      have hlm : (FF.map spnAt).length = FF.length := List.length_map _
      have HB3 := Lib.hid (bot HB2.out HB.out)
      clear hs Hown HB Hm hfr
      by_cases h64 : FF.length ≤ 64
      · rw [if_pos h64] at hfit
        have h64' : ¬ (64 : Int) < (FF.length : Int) := by omega
        have Hfit := Lib.hid (HQQ.out.trans hfit)
        clear hfit
        generalize FF.length = z at *
        go_wp2_with fail
        go_ret2
        rw [Hfit.out]
        exact ⟨_, rfl, HS.out, HB3.out⟩
      · rw [if_neg h64] at hfit
        have h64' : (64 : Int) < (FF.length : Int) := by omega
        have Hfit := Lib.hid (HQQ.out.trans hfit)
        clear hfit
        generalize FF.length = z at *
        go_wp2_with fail
        go_ret2
        rw [Hfit.out]
        exact ⟨_, rfl, SlV.nil_ _ _ _, HB3.out⟩
    have hkx : k < L.length := by have := Hln.out; omega
    have hlw := HL.out.below HB.out (fun xb hb => hb)
    obtain ⟨b, o, cs, rfl, hSb, hbl, hsp, hcell⟩ := hlw.elem (List.getElem?_eq_getElem hkx)
    obtain ⟨rfl, _⟩ := hsp
    have c0 := hcell 0 _ rfl
    simp only [rInt, Nat.add_zero, Nat.mul_one] at c0
    clear hcell
    have hmem : L[k] ∈ L.drop k := by rw [List.drop_eq_getElem_cons hkx]; exact List.mem_cons_self
    have Hgt : Hid (∀ y ∈ L.drop (k + 1), L[k] < y) := fun y hy => by
      have hp := Hsort.out.sublist (List.drop_sublist k L)
      rw [List.drop_eq_getElem_cons hkx] at hp
      exact (List.pairwise_cons.1 hp).1 y hy
    have Hgt0 : Hid ((∀ f : Int, (∀ y ∈ L.drop k, f < y) → ∀ y ∈ L.drop (k + 1), f < y) ∧ (∀ f : Int, (∀ y ∈ L.drop k, f < y) → f < L[k])) :=
      ⟨fun f h y hy => h y (by rw [List.drop_eq_getElem_cons hkx]; exact List.mem_cons_of_mem _ hy), fun f h => h _ hmem⟩
    have hxr := Hrng.out L[k] (List.getElem_mem hkx)
    have Hst : Hid (foldGo q (L.drop k) fr = if (decide (L[k] ≤ lastR) && q L[k]) = true then (if fr < 0 then foldGo q (L.drop (k + 1)) L[k] else foldGo q (L.drop (k + 1)) fr) else (if 0 ≤ fr then (fr, L[k] - 1) :: foldGo q (L.drop (k + 1)) (-1) else foldGo q (L.drop (k + 1)) fr)) := by
      unfold Hid; rw [List.drop_eq_getElem_cons hkx, foldGo]
    clear hmem hlw
    generalize L[k] = x at *
    have hkn : (k : Int) < (ln : Int) := by omega
    have hk0 : (0 : Int) ≤ (k : Int) := by omega
    unfold lastR at hxr
    obtain ⟨hx0, hx1⟩ := hxr
    have hfl : fr ≤ lastR := by rcases hfr with h | h; (unfold lastR; omega); exact h.2.1
    unfold lastR at hfl
    by_cases hx9 : x ≤ 999999999
    · have Q1 := Lib.hid (qcall (w := wr) (fun W hW => Ha.out W x (bot (bot HB2.out HB.out) hW)))
      have Q2 := Lib.hid (qcall (w := wr) (fun W hW => Hb.out W x (bot (bot HB2.out HB.out) hW)))
      have Q3 := Lib.hid (qcall (w := wr) (fun W hW => Hw.out W (hasB (rks xa) x) (hasB (rks xb) x)))
      have Hqx := Lib.hid (Hq.out x)
      generalize wantB kind (hasB (rks xa) x) (hasB (rks xb) x) = t at *
      generalize hasB (rks xa) x = p1 at *
      generalize hasB (rks xb) x = p2 at *
      have r_c0 := cell_regrown c0
      go_wp2_with fail
      refine wp_region_qb (by kernel_rfl) (by kernel_rfl) ?_
      repeat (go_big_quiet_step (first | (with_reducible exact Q1.out _ _) | (with_reducible exact Q2.out _ _) | (with_reducible exact Q3.out _ _)))
      refine wpQuiet_nil ?_
      intro w1 B1
      have d0 := below_cell B1 c0 (cell_lt c0)
      have HB1 := Lib.hid (bot HB.out B1)
      have Hown1 := Lib.hid (Hown.out.keep B1)
      clear c0 r_c0 Q1 Q2 Q3 Hown HB
      cases t with
      | true =>
        have Hm' : Hid (FF = done ++ if fr < 0 then foldGo q (L.drop (k + 1)) x else foldGo q (L.drop (k + 1)) fr) := by unfold Hid; rw [Hm.out, Hst.out, if_pos (by rw [← Hqx.out]; simp [lastR, hx9])]
        clear Hm Hst
        rcases hfr with rfl | ⟨f0, f1, f2⟩
        · have Hm2 : Hid (FF = done ++ foldGo q (L.drop (k + 1)) x) := by unfold Hid; rw [Hm'.out, if_pos (by omega)]
          clear Hm'
          go_wp2_with fail
          go_roundw
          case rel => exact ⟨k + 1, x, done, by omega, by go_num, rfl, .inr ⟨hx0, hx9, Hgt.out⟩, by omega, Hm2, Hown1, HB1⟩
          case measure => simp [intOf]; omega
        · have Hm2 : Hid (FF = done ++ foldGo q (L.drop (k + 1)) fr) := by unfold Hid; rw [Hm'.out, if_neg (by omega)]
          have hfn : ¬ fr < 0 := by omega
          clear Hm'
          go_wp2_with fail
          go_roundw
          case rel => exact ⟨k + 1, fr, done, by omega, by go_num, rfl, .inr ⟨f0, f1, Hgt0.out.1 fr f2⟩, by omega, Hm2, Hown1, HB1⟩
          case measure => simp [intOf]; omega
      | false =>
        have Hm' : Hid (FF = done ++ if 0 ≤ fr then (fr, x - 1) :: foldGo q (L.drop (k + 1)) (-1) else foldGo q (L.drop (k + 1)) fr) := by unfold Hid; rw [Hm.out, Hst.out, if_neg (by rw [← Hqx.out]; simp)]
        clear Hm Hst
        rcases hfr with rfl | ⟨f0, f1, f2⟩
        · have Hm2 : Hid (FF = done ++ foldGo q (L.drop (k + 1)) (-1)) := by unfold Hid; rw [Hm'.out, if_neg (by omega)]
          clear Hm'
          go_wp2_with fail
          go_roundw
          case rel => exact ⟨k + 1, -1, done, by omega, by go_num, rfl, .inl rfl, by omega, Hm2, Hown1, HB1⟩
          case measure => simp [intOf]; omega
        · have Hm2 : Hid (FF = (done ++ [(fr, x - 1)]) ++ foldGo q (L.drop (k + 1)) (-1)) := by unfold Hid; rw [Hm'.out, if_pos f0, List.append_assoc]; rfl
          clear Hm'
          have hfx : fr < x := Hgt0.out.2 fr f2
          have hx10 : 0 ≤ x - 1 := by omega
          have hx11 : x - 1 ≤ 999999999 := by omega
          have hf9 : fr ≤ 999999999 := by omega
          have Hq4 : Hid (∀ W, Calls Tryz.prog 90 #[.int .i64 fr] W fun e w' => e = .returned (.agg #[.int .i64 (fr / 1000 / 1000), .int .i64 (fr / 1000 % 1000), .int .i64 (fr % 1000)]) ∧ Below W.heap.size W w') := fun W => Hat.out W fr f0 hf9
          have Hq5 : Hid (∀ W, Calls Tryz.prog 90 #[.int .i64 (x - 1)] W fun e w' => e = .returned (.agg #[.int .i64 ((x - 1) / 1000 / 1000), .int .i64 ((x - 1) / 1000 % 1000), .int .i64 ((x - 1) % 1000)]) ∧ Below W.heap.size W w') := fun W => Hat.out W (x - 1) hx10 hx11
          have hwx : IntKind.i64.wrap (x - 1) = x - 1 := IntWalk.i64_in _ ⟨by omega, by omega⟩
          have Hf1 : Hid (∀ g, u9.ownBlock = some g → w2.heap.size ≤ g) := fun g hg => (Hown1.out.lt g hg).1
          have Hi1 := Lib.hid (verAt_i64 f0 hf9)
          have Hi2 := Lib.hid (verAt_i64 hx10 hx11)
          have Hsp : Hid ((done ++ [(fr, x - 1)]).map spnAt = done.map spnAt ++ [⟨⟨fr / 1000 / 1000, fr / 1000 % 1000, fr % 1000⟩, ⟨(x - 1) / 1000 / 1000, (x - 1) / 1000 % 1000, (x - 1) % 1000⟩⟩]) := by unfold Hid; rw [List.map_append]; rfl
          have Hlen : Hid ((done.map spnAt).length = done.length) := List.length_map _
          have Hle : Hid ((done ++ [(fr, x - 1)]).length = done.length + 1) := by unfold Hid; simp
          generalize fr / 1000 / 1000 = a1 at *
          generalize fr / 1000 % 1000 = a2 at *
          generalize fr % 1000 = a3 at *
          generalize (x - 1) / 1000 / 1000 = b1 at *
          generalize (x - 1) / 1000 % 1000 = b2 at *
          generalize (x - 1) % 1000 = b3 at *
          generalize done ++ [(fr, x - 1)] = done2 at *
          generalize done.map spnAt = dspn at *
          have Hbl := Lib.hid HB1.out
          have hbz := HB1.out.size
          go_wp2_with fail
          go_region_held3 (fun w' => w'.cell? ⟨b, o + k, none⟩ = some (.int .i64 x) ∧ Below w2.heap.size w2 w')
            (first
              | exact ⟨d0, HB1.out.drew⟩
              | (go_split_ands; exact keep1 (by assumption) (by assumption) (by assumption))
              | (go_split_ands; exact keep1 ((Below.refl _ _).alloc (Nat.le_refl _) _) (by assumption) (by assumption))
              | (go_split_ands; exact keep1g hgrow9 Hf1.out hSb (by assumption) (by assumption)))
            (first
              | (go_at_call 90; go_split_ands; (first | (with_reducible refine (Hq4.out _).mono ?_) | (with_reducible refine (Hq5.out _).mono ?_)); rintro e w' ⟨rfl, hb⟩)
              | (go_split_ands; refine step_push (by rfl) _ _ _ (by rfl) elt_spn Tryz.underlying36 (by rfl) (Own.alloc (Own.keep (Own.keep (Hown1.out.drew) (by assumption)) (by assumption)) _) ⟨_, 0, none⟩ 1 [.int .i64 a1, .int .i64 a2, .int .i64 a3, .int .i64 b1, .int .i64 b2, .int .i64 b3] ⟨⟨a1, a2, a3⟩, ⟨b1, b2, b3⟩⟩ (by rfl) ⟨rfl, Hi1.out.1, Hi1.out.2.1, Hi1.out.2.2, Hi2.out.1, Hi2.out.2.1, Hi2.out.2.2⟩ (news_of _ #[.int .i64 a1, .int .i64 a2, .int .i64 a3, .int .i64 b1, .int .i64 b2, .int .i64 b3] _) (by rw [Hlen.out]; unfold maxLen; omega) (by rw [Hlen.out]; omega) (Below.size (by assumption)) _ rfl ?_; intro g9 cap9 w9 hown9 hgrow9 hat9 hlt9))
          all_goals
            have HB5 : Hid (Below w2.heap.size w2 w9) := by (go_split_ands; assumption)
            have Hown5 := Lib.hid hown9
            clear hown9 hgrow9
            go_wp2_with fail
            go_roundw
            case rel => exact ⟨k + 1, -1, done2, by omega, by go_num, rfl, .inl rfl, by rw [Hle.out]; omega, Hm2, by unfold Hid; rw [Hsp.out]; exact Hown5.out, HB5⟩
            case measure => simp [intOf]; omega
    · have hx9' : ¬ x ≤ 999999999 := hx9
      have hx9d : decide (x ≤ 999999999) = false := decide_eq_false hx9
      have r_c0 := cell_regrown c0
      go_wp2_with fail
      refine wp_region_qb (by kernel_rfl) (by kernel_rfl) ?_
      repeat (go_big_quiet_step (first | fail))
      refine wpQuiet_nil ?_
      intro w1 B1
      have d0 := below_cell B1 c0 (cell_lt c0)
      have HB1 := Lib.hid (bot HB.out B1)
      have Hown1 := Lib.hid (Hown.out.keep B1)
      clear c0 r_c0 Hown HB
      have Hm' : Hid (FF = done ++ if 0 ≤ fr then (fr, x - 1) :: foldGo q (L.drop (k + 1)) (-1) else foldGo q (L.drop (k + 1)) fr) := by unfold Hid; rw [Hm.out, Hst.out, if_neg (by simp; intro h; unfold lastR at h; omega)]
      clear Hm Hst
      rcases hfr with rfl | ⟨f0, f1, f2⟩
      · have Hm2 : Hid (FF = done ++ foldGo q (L.drop (k + 1)) (-1)) := by unfold Hid; rw [Hm'.out, if_neg (by omega)]
        clear Hm'
        go_wp2_with fail
        go_roundw
        case rel => exact ⟨k + 1, -1, done, by omega, by go_num, rfl, .inl rfl, by omega, Hm2, Hown1, HB1⟩
        case measure => simp [intOf]; omega
      · have Hm2 : Hid (FF = (done ++ [(fr, x - 1)]) ++ foldGo q (L.drop (k + 1)) (-1)) := by unfold Hid; rw [Hm'.out, if_pos f0, List.append_assoc]; rfl
        clear Hm'
        have hfx : fr < x := Hgt0.out.2 fr f2
        have hx10 : 0 ≤ x - 1 := by omega
        have hx11 : x - 1 ≤ 999999999 := by omega
        have hf9 : fr ≤ 999999999 := by omega
        have Hq4 : Hid (∀ W, Calls Tryz.prog 90 #[.int .i64 fr] W fun e w' => e = .returned (.agg #[.int .i64 (fr / 1000 / 1000), .int .i64 (fr / 1000 % 1000), .int .i64 (fr % 1000)]) ∧ Below W.heap.size W w') := fun W => Hat.out W fr f0 hf9
        have Hq5 : Hid (∀ W, Calls Tryz.prog 90 #[.int .i64 (x - 1)] W fun e w' => e = .returned (.agg #[.int .i64 ((x - 1) / 1000 / 1000), .int .i64 ((x - 1) / 1000 % 1000), .int .i64 ((x - 1) % 1000)]) ∧ Below W.heap.size W w') := fun W => Hat.out W (x - 1) hx10 hx11
        have hwx : IntKind.i64.wrap (x - 1) = x - 1 := IntWalk.i64_in _ ⟨by omega, by omega⟩
        have Hf1 : Hid (∀ g, u9.ownBlock = some g → w2.heap.size ≤ g) := fun g hg => (Hown1.out.lt g hg).1
        have Hi1 := Lib.hid (verAt_i64 f0 hf9)
        have Hi2 := Lib.hid (verAt_i64 hx10 hx11)
        have Hsp : Hid ((done ++ [(fr, x - 1)]).map spnAt = done.map spnAt ++ [⟨⟨fr / 1000 / 1000, fr / 1000 % 1000, fr % 1000⟩, ⟨(x - 1) / 1000 / 1000, (x - 1) / 1000 % 1000, (x - 1) % 1000⟩⟩]) := by unfold Hid; rw [List.map_append]; rfl
        have Hlen : Hid ((done.map spnAt).length = done.length) := List.length_map _
        have Hle : Hid ((done ++ [(fr, x - 1)]).length = done.length + 1) := by unfold Hid; simp
        generalize fr / 1000 / 1000 = a1 at *
        generalize fr / 1000 % 1000 = a2 at *
        generalize fr % 1000 = a3 at *
        generalize (x - 1) / 1000 / 1000 = b1 at *
        generalize (x - 1) / 1000 % 1000 = b2 at *
        generalize (x - 1) % 1000 = b3 at *
        generalize done ++ [(fr, x - 1)] = done2 at *
        generalize done.map spnAt = dspn at *
        have Hbl := Lib.hid HB1.out
        have hbz := HB1.out.size
        go_wp2_with fail
        go_region_held3 (fun w' => w'.cell? ⟨b, o + k, none⟩ = some (.int .i64 x) ∧ Below w2.heap.size w2 w')
          (first
            | exact ⟨d0, HB1.out.drew⟩
            | (go_split_ands; exact keep1 (by assumption) (by assumption) (by assumption))
            | (go_split_ands; exact keep1 ((Below.refl _ _).alloc (Nat.le_refl _) _) (by assumption) (by assumption))
            | (go_split_ands; exact keep1g hgrow9 Hf1.out hSb (by assumption) (by assumption)))
          (first
            | (go_at_call 90; go_split_ands; (first | (with_reducible refine (Hq4.out _).mono ?_) | (with_reducible refine (Hq5.out _).mono ?_)); rintro e w' ⟨rfl, hb⟩)
            | (go_split_ands; refine step_push (by rfl) _ _ _ (by rfl) elt_spn Tryz.underlying36 (by rfl) (Own.alloc (Own.keep (Own.keep (Hown1.out.drew) (by assumption)) (by assumption)) _) ⟨_, 0, none⟩ 1 [.int .i64 a1, .int .i64 a2, .int .i64 a3, .int .i64 b1, .int .i64 b2, .int .i64 b3] ⟨⟨a1, a2, a3⟩, ⟨b1, b2, b3⟩⟩ (by rfl) ⟨rfl, Hi1.out.1, Hi1.out.2.1, Hi1.out.2.2, Hi2.out.1, Hi2.out.2.1, Hi2.out.2.2⟩ (news_of _ #[.int .i64 a1, .int .i64 a2, .int .i64 a3, .int .i64 b1, .int .i64 b2, .int .i64 b3] _) (by rw [Hlen.out]; unfold maxLen; omega) (by rw [Hlen.out]; omega) (Below.size (by assumption)) _ rfl ?_; intro g9 cap9 w9 hown9 hgrow9 hat9 hlt9))
        all_goals
          have HB5 : Hid (Below w2.heap.size w2 w9) := by (go_split_ands; assumption)
          have Hown5 := Lib.hid hown9
          clear hown9 hgrow9
          go_wp2_with fail
          go_roundw
          case rel => exact ⟨k + 1, -1, done2, by omega, by go_num, rfl, .inl rfl, by rw [Hle.out]; omega, Hm2, by unfold Hid; rw [Hsp.out]; exact Hown5.out, HB5⟩
          case measure => simp [intOf]; omega

end Go.Proofs.YtldjldkejjeamaaGreatDoor
