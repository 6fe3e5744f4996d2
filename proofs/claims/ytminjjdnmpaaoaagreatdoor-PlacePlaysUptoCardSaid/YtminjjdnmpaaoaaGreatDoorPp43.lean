/-
  The document's placer: the directories in order: walked.
-/
import Derived.Test.YtminjjdnmpaaoaaGreatDoorPp37
import Derived.Test.YtminjjdnmpaaoaaGreatDoorPp21
import Derived.Test.YtminjjdnmpaaoaaGreatDoorPp15
import Derived.Test.YtminjjdnmpaaoaaGreatDoorPp42
import Derived.Test.YtminjjdnmpaaoaaGreatDoorPp41
import Derived.Test.YtminjjdnmpaaoaaGreatDoorPp07
import Derived.Deep.CutRange
set_option autoImplicit false
set_option relaxedAutoImplicit false
set_option linter.unusedVariables false
set_option linter.unusedSimpArgs false
namespace Go.Proofs.YtminjjdnmpaaoaaGreatDoor
open Go.Rows Go.RowKit Go.Shelf Go.Sort

theorem le_less (a b : ByteArray) : (Op.bytesLess a.toList b.toList || a.toList == b.toList) = !lessB b a := by
  show (lessB a b || a.toList == b.toList) = !lessB b a
  rw [lessB_lt, lessB_lt, Go.ByteArray.toList_eq, Go.ByteArray.toList_eq]
  generalize a.data.toList = x
  generalize b.data.toList = y
  by_cases h : y < x
  · have h1 : ¬ x < y := List.lt_asymm h
    have h2 : x ≠ y := fun e => by subst e; exact List.lt_irrefl _ h
    rw [decide_eq_true h, decide_eq_false h1, beq_eq_false_iff_ne.2 h2]; rfl
  · by_cases h1 : x < y
    · rw [decide_eq_true h1, decide_eq_false h]; rfl
    · have e : x = y := List.le_antisymm (List.not_lt.1 h) (List.not_lt.1 h1)
      subst e
      rw [beq_self_eq_true, decide_eq_false h, Bool.or_true]; rfl
theorem sortD_step {l : List Dir} {k : Nat} {d : Dir} (h : l[k]? = some d) : sortD (l.take (k + 1)) = putD (sortD (l.take k)) d := by
  unfold sortD
  rw [List.take_add_one, h, List.foldl_append]
  rfl
theorem sortD_len (l : List Dir) : (sortD l).length = l.length := (sortD_perm l).length_eq
set_option maxHeartbeats 6400000 in
set_option maxRecDepth 100000 in
theorem sortedD_any (A : Option Addr) (n c : Nat) (xs : List Dir) (w : World) (S : Nat → Prop) (hx : SlV rDir w S xs (.slice A n c)) (hn : n ≤ 257) (hpl : ∀ d ∈ xs, d.path.length ≤ 1024) :
    Calls Tryz.prog 30 #[.agg #[.slice A n c]] w fun e w' => ∃ rv, e = .returned (.agg #[rv]) ∧ SlV rDir w' (fun _ => True) (sortD xs) rv ∧ Below w.heap.size w w' := by
  have hne := hx.n_eq
  have hxw := hx.more (S' := fun b => b < w.heap.size) fun b _ h => h
  have HX := Lib.hid hxw
  have Hne := Lib.hid hne
  have Hpl := Lib.hid hpl
  clear hx hxw hne hpl
  go_enter Tryz.func30, Tryz.ntmps30
  go_upto_region 1 with (fail)
  obtain ⟨w1, hw1⟩ : ∃ w1, w1 = (w.alloc (.cells #[.slice A n c] 33)).alloc (.cells #[.slice none 0 0] 33) := ⟨_, rfl⟩
  have hB1 : Below w.heap.size w w1 := by rw [hw1]; exact bal (bal (Below.refl _ _) _) _
  have hq := two_newN w (.cells #[.slice A n c] 33) (.cells #[.slice none 0 0] 33)
  rw [← hw1] at hq ⊢
  have HB1 := Lib.hid hB1
  obtain ⟨IB, hIB⟩ : ∃ k, k = w.heap.size := ⟨_, rfl⟩
  obtain ⟨RB, hRB⟩ : ∃ k, k = w.heap.size + 1 := ⟨_, rfl⟩
  have hwI : w.heap.size ≤ IB := by omega
  have hwR : w.heap.size ≤ RB := by omega
  have HwR := Lib.hid hwR
  have hIR : IB ≠ RB := by omega
  rw [← hRB, ← hIB] at hq
  rw [← hRB, ← hIB]
  have hI1 : IB < w1.heap.size := (Array.getElem?_eq_some_iff.1 hq.1).1
  have hR1 : RB < w1.heap.size := (Array.getElem?_eq_some_iff.1 hq.2).1
  have HR1 := Lib.hid hR1
  have HQ : Hid (∀ W, Below w1.heap.size w1 W → W.cell? ⟨IB, 0, none⟩ = some (.slice A n c) ∧ W.heap[RB]? = some (.cells #[.slice none 0 0] 33 (0, 0))) := fun W hW => ⟨below_cell hW (cell_of_row _ _ 0 _ _ _ hq.1) hI1, (hW.block _ hR1).trans hq.2⟩
  clear hw1 hB1 hq hIB hRB hwI hwR hI1 hR1
  go_wp2_with fail
  go_loopw [3, 4] (fun ov iv wr => ∃ (k : Nat) (vO : Value) (S' : Nat → Prop) (Bs : Nat), k ≤ n ∧ vO = ov ∧ iv = .int .i64 (k : Int) ∧ Hid (Own rDir wr Bs 54 vO (sortD (xs.take k)) S') ∧ Hid (w1.heap.size ≤ Bs ∧ ∀ b, S' b → b ≠ RB) ∧ Hid (Below w1.heap.size w1 wr)) (fun _ iv _ => n - (intOf iv).toNat)
  case atStart => exact ⟨0, _, fun _ => False, w1.heap.size, Nat.zero_le _, rfl, rfl, Own.nil_ _ _ _ _ (fun b h => h.elim), ⟨Nat.le_refl _, fun b h => h.elim⟩, Below.refl _ _⟩
  case round =>
    obtain ⟨k, vO, SO, Bs, hk, rfl, rfl, hO, hS, hB⟩ := hrel
    have hk0 : (0 : Int) ≤ (k : Int) := by omega
    have hLl : (sortD (xs.take k)).length = k := by rw [sortD_len, List.length_take]; have := Hne.out; omega
    have HO : Hid (SlV rDir wr (fun b => b ≠ RB) (sortD (xs.take k)) vO) := hO.out.slv.more fun b hb _ => by
      rcases hb with hb | hb
      · exact hS.out.2 b hb
      · have := hS.out.1; have := HR1.out; omega
    obtain ⟨OA, oc, hvO, hoc, _⟩ := hO.out.slv.val
    rw [hLl] at hvO hoc
    subst hvO
    obtain ⟨q0, _⟩ := HQ.out wr hB.out
    by_cases hlt : k < n
    case neg =>
      have hI : ¬ (k : Int) < (n : Int) := by omega
      have htk : xs.take k = xs := List.take_of_length_le (by have := Hne.out; omega)
      rw [htk] at HO
      have hrow := Lib.hid (HQ.out wr hB.out).2
      have rf : wr.frozen? ⟨RB, 0, none⟩ = false := frozen_row hrow.out
      have rc := cell_of_row _ _ 0 _ _ _ hrow.out
      obtain ⟨vO, hvO⟩ : ∃ v, v = Value.slice OA k oc := ⟨_, rfl⟩
      rw [← hvO] at HO
      have HBe : Hid (Below w.heap.size w (wr.setCell ⟨RB, 0, none⟩ vO)) := (bot HB1.out hB.out).setCell (p := ⟨RB, 0, none⟩) HwR.out _
      have HSe : Hid (SlV rDir (wr.setCell ⟨RB, 0, none⟩ vO) (fun _ => True) (sortD xs) vO) := (HO.out.keep fun b hb _ => heap_setCell_other wr ⟨RB, 0, none⟩ b _ hb).more fun _ _ _ => trivial
      clear hO hS htk HO
      subst hvO
      go_wp2_with fail
      refine bodyPost_ret (results_cell_row rfl _ _ RB 33 _ (0, 0) _ rfl (heap_setT hrow.out _) Tryz.underlying33 rfl (by kernel_rfl)) rfl ⟨_, rfl, HSe.out, HBe.out⟩
    have hkn : (k : Int) < (n : Int) := by omega
    obtain ⟨d, hd⟩ : ∃ d, xs[k]? = some d := ⟨_, List.getElem?_eq_getElem (by have := Hne.out; omega)⟩
    obtain ⟨xb, xo, cs, hA, hxb, hxl, hh, hcell⟩ := (HX.out.belowSize (bot HB1.out hB.out)).elem hd
    obtain ⟨s0, s1, s2, s3, rfl, hp, hm0, hm1, hm2, hm3, hd1, hd2, hd3, hnd⟩ := hh
    obtain ⟨pA, pc, rfl, _, _⟩ := hp.val
    obtain ⟨a1, c1, rfl, _, _⟩ := hd1.val
    obtain ⟨a2, c2, rfl, _, _⟩ := hd2.val
    obtain ⟨a3, c3, rfl, _, _⟩ := hd3.val
    have HA := Lib.hid hA
    clear hA
    have hC9 : ∀ W, Below wr.heap.size wr W → W.cell? ⟨xb, xo + k * 9, none⟩ = some (.slice pA d.path.length pc) ∧ W.cell? ⟨xb, xo + k * 9 + 1, none⟩ = some (.string d.pack.name) ∧ W.cell? ⟨xb, xo + k * 9 + 2, none⟩ = some (.int .i64 d.pack.ver.major) ∧ W.cell? ⟨xb, xo + k * 9 + 3, none⟩ = some (.int .i64 d.pack.ver.minor) ∧ W.cell? ⟨xb, xo + k * 9 + 4, none⟩ = some (.int .i64 d.pack.ver.patch) ∧ W.cell? ⟨xb, xo + k * 9 + 5, none⟩ = some (.slice a1 d.pack.deps.length c1) ∧ W.cell? ⟨xb, xo + k * 9 + 6, none⟩ = some (.slice a2 d.pack.peers.length c2) ∧ W.cell? ⟨xb, xo + k * 9 + 7, none⟩ = some (.slice a3 d.pack.opts.length c3) ∧ W.cell? ⟨xb, xo + k * 9 + 8, none⟩ = some (.int .i64 d.node) := fun W hW =>
      ⟨below_cell hW (hcell 0 _ rfl) hxl, below_cell hW (hcell 1 _ rfl) hxl, below_cell hW (hcell 2 _ rfl) hxl, below_cell hW (hcell 3 _ rfl) hxl, below_cell hW (hcell 4 _ rfl) hxl, below_cell hW (hcell 5 _ rfl) hxl, below_cell hW (hcell 6 _ rfl) hxl, below_cell hW (hcell 7 _ rfl) hxl, below_cell hW (hcell 8 _ rfl) hxl⟩
    have HC9 := Lib.hid hC9
    have HHd : Hid (∀ W S', Below wr.heap.size wr W → (∀ b, b < w.heap.size → S' b) → rDir.holds W S' d [.slice pA d.path.length pc, .string d.pack.name, .int .i64 d.pack.ver.major, .int .i64 d.pack.ver.minor, .int .i64 d.pack.ver.patch, .slice a1 d.pack.deps.length c1, .slice a2 d.pack.peers.length c2, .slice a3 d.pack.opts.length c3, .int .i64 d.node]) := fun W S' hW hS' =>
      ⟨_, _, _, _, rfl, (hp.belowSize hW).more fun b hb _ => hS' b hb, hm0, hm1, hm2, hm3, (hd1.belowSize hW).more fun b hb _ => hS' b hb, (hd2.belowSize hW).more fun b hb _ => hS' b hb, (hd3.belowSize hW).more fun b hb _ => hS' b hb, hnd⟩
    have hdp : d.path.length ≤ 1024 := Hpl.out d (List.mem_of_getElem? hd)
    have HTd : Hid (∀ W, Below wr.heap.size wr W → Calls Tryz.prog 61 #[.slice pA d.path.length pc] W fun e w' => e = .returned (.string (textB d.path)) ∧ Below W.heap.size W w') := fun W hW => (refText_any _ _ _ d.path W _ (by omega) (hp.belowSize hW)).mono fun e w' ⟨h1, h2⟩ => ⟨h1, by rw [← h2]; exact Below.refl _ _⟩
    have HLd : Hid (∀ g ∈ sortD (xs.take k), g.path.length ≤ 1024) := fun g hg => Hpl.out g (List.mem_of_mem_take ((sortD_perm _).mem_iff.1 hg))
    have HSt : Hid (sortD (xs.take (k + 1)) = putD (sortD (xs.take k)) d) := sortD_step hd
    have HlL := Lib.hid hLl
    have HHO := hO
    have HHS := hS
    clear hp hm0 hm1 hm2 hm3 hd1 hd2 hd3 hnd hcell hC9 hd hLl hO hS
    generalize sortD (xs.take k) = L at *
    go_wp2_with fail
    clear q0
    generalize wr = wo at *
    go_loopw [5] (fun jv wj => ∃ j : Nat, j ≤ k ∧ jv = .int .i64 (j : Int) ∧ Hid (∀ x ∈ L.take j, (!lessB (textB d.path) (textB x.path)) = true) ∧ Hid (Below wo.heap.size wo wj)) (fun jv _ => k - (intOf jv).toNat)
    case atStart => exact ⟨0, Nat.zero_le _, rfl, fun x hx => by simp at hx, Below.refl _ _⟩
    case round =>
      obtain ⟨j, hj, rfl, Hle, HBj⟩ := hrel
      have hj0 : (0 : Int) ≤ (j : Int) := by omega
      obtain ⟨q0, _⟩ := HQ.out wr (bot hB.out HBj.out)
      obtain ⟨y0, _⟩ := HC9.out wr HBj.out
      have HT2 := Lib.hid (qcall (w := wr) (fun W hW => HTd.out W (bot HBj.out hW)))
      rw [HA.out] at q0
      by_cases hC : ∃ g, L[j]? = some g ∧ lessB (textB d.path) (textB g.path) = false
      · obtain ⟨g, hg, hlt⟩ := hC
        have hjI : (j : Int) < (k : Int) := by have := (List.getElem?_eq_some_iff.1 hg).1; have := HlL.out; omega
        obtain ⟨ob, oo, cs, hOA, _, hob, hh, hcell⟩ := (HO.out.belowSize HBj.out).elem hg
        obtain ⟨s0, s1, s2, s3, rfl, hp, _⟩ := hh
        obtain ⟨gA, gc, rfl, _, _⟩ := hp.val
        have g0 := hcell 0 _ rfl
        simp only [rDir, Nat.add_zero] at g0
        have hgp := HLd.out g (List.mem_of_getElem? hg)
        have HT1 := Lib.hid (qcall (w := wr) (fun W hW => (refText_any gA _ gc g.path W _ (by omega) (hp.belowSize hW)).mono fun e w' h => ⟨h.1, by rw [← h.2]; exact Below.refl _ _⟩))
        have Hle2 : Hid (∀ x ∈ L.take (j + 1), (!lessB (textB d.path) (textB x.path)) = true) := fun x hx => by
          rw [List.take_add_one, hg, List.mem_append] at hx
          rcases hx with hx | hx
          · exact Hle.out x hx
          · have : x = g := by simpa using hx
            rw [this, hlt]; rfl
        have hls : (Op.bytesLess (textB g.path).toList (textB d.path).toList || (textB g.path).toList == (textB d.path).toList) = true := by rw [le_less, hlt]; rfl
        subst hOA
        clear hlt Hle hp hcell hg
        generalize textB g.path = tg at *
        generalize textB d.path = td at *
        go_upto_region 6 with (fail)
        have r_q0 := cell_regrown q0
        have r_y0 := cell_regrown y0
        have r_g0 := cell_regrown g0
        go_wp2_with fail
        refine wp_region_qb (by kernel_rfl) (by kernel_rfl) ?_
        repeat (go_big_quiet_step (first | (with_reducible exact HT1.out _ _) | (with_reducible exact HT2.out _ _)))
        refine wpQuiet_nil ?_
        intro w3 B3
        have HB3 := Lib.hid (bot HBj.out B3)
        clear q0 y0 g0 r_q0 r_y0 r_g0 B3 HBj
        go_wp2_with fail
        go_roundw
        case rel => exact ⟨j + 1, by omega, by go_num, Hle2, HB3⟩
        case measure => simp [intOf]; omega
      have Hput : Hid (putD L d = L.take j ++ d :: L.drop j) := by
        obtain ⟨h1, h2⟩ := while_split (fun g : Dir => !lessB (textB d.path) (textB g.path)) L j Hle.out (by
          by_cases h : L.length ≤ j
          · exact .inl h
          · refine .inr ⟨L[j], List.getElem?_eq_getElem (by omega), ?_⟩
            cases hb : lessB (textB d.path) (textB L[j].path) with
            | true => rfl
            | false => exact absurd ⟨L[j], List.getElem?_eq_getElem (by omega), hb⟩ hC)
        unfold Hid putD
        rw [h1, h2]
      clear Hle
      refine dite (j < k) (fun hpn => ?_) (fun hpn => ?_)
      focus
        have hjI : (j : Int) < (k : Int) := by omega
        obtain ⟨g, hg⟩ : ∃ g, L[j]? = some g := ⟨_, List.getElem?_eq_getElem (by have := HlL.out; omega)⟩
        have hlt : lessB (textB d.path) (textB g.path) = true := by
          cases hb : lessB (textB d.path) (textB g.path) with
          | true => rfl
          | false => exact absurd ⟨g, hg, hb⟩ hC
        obtain ⟨ob, oo, cs, hOA, _, hob, hh, hcell⟩ := (HO.out.belowSize HBj.out).elem hg
        obtain ⟨s0, s1, s2, s3, rfl, hp, _⟩ := hh
        obtain ⟨gA, gc, rfl, _, _⟩ := hp.val
        have g0 := hcell 0 _ rfl
        simp only [rDir, Nat.add_zero] at g0
        have hgp := HLd.out g (List.mem_of_getElem? hg)
        have HT1 := Lib.hid (qcall (w := wr) (fun W hW => (refText_any gA _ gc g.path W _ (by omega) (hp.belowSize hW)).mono fun e w' h => ⟨h.1, by rw [← h.2]; exact Below.refl _ _⟩))
        have hls : (Op.bytesLess (textB g.path).toList (textB d.path).toList || (textB g.path).toList == (textB d.path).toList) = false := by rw [le_less, hlt]; rfl
        clear hlt hp hcell hg hC
        generalize textB g.path = tg at *
        generalize textB d.path = td at *
        go_upto_region 6 with (fail)
        rw [hOA]
        have r_q0 := cell_regrown q0
        have r_y0 := cell_regrown y0
        have r_g0 := cell_regrown g0
        go_wp2_with fail
        refine wp_region_qb (by kernel_rfl) (by kernel_rfl) ?_
        repeat (go_big_quiet_step (first | (with_reducible exact HT1.out _ _) | (with_reducible exact HT2.out _ _)))
        refine wpQuiet_nil ?_
        intro w4 B4
        have Q4 := Lib.hid B4
        clear q0 y0 g0 r_q0 r_y0 r_g0 B4
        rw [← hOA]
        clear hOA
        go_upto_region 8 with (fail)
      rotate_left
      focus
        have hpI : ¬ (j : Int) < (k : Int) := by omega
        have hpd : decide ((j : Int) < (k : Int)) = false := decide_eq_false hpI
        have hpdn : decide (j < k) = false := decide_eq_false hpn
        clear hC
        generalize textB d.path = td at *
        go_upto_region 6 with (fail)
        have r_q0 := cell_regrown q0
        have r_y0 := cell_regrown y0
        go_wp2_with fail
        refine wp_region_qb (by kernel_rfl) (by kernel_rfl) ?_
        repeat (go_big_quiet_step (first | (with_reducible exact HT2.out _ _)))
        refine wpQuiet_nil ?_
        intro w4 B4
        have Q4 := Lib.hid B4
        clear q0 y0 r_q0 r_y0 B4
        go_upto_region 8 with (fail)
      all_goals
        have hj9 : j ≤ 1000 := by omega
        have HBw4 : Hid (Below wo.heap.size wo w4) := bot HBj.out Q4.out
        have hjc : j ≤ oc := by omega
        have Hlt1 : Hid ((L.take j).length = j) := by unfold Hid; rw [List.length_take, HlL.out]; omega
        have HLs : Hid (SlV rDir w4 (fun b => b ≠ RB ∧ b < w4.heap.size) L (.slice OA k oc)) := (HO.out.belowSize HBw4.out).more fun b hb hl => ⟨hb, hl⟩
        have HT3 : Hid (SlV rDir w4 (fun b => b ≠ RB ∧ b < w4.heap.size) (L.take j) (.slice OA j oc)) := SlV.take HLs.out (by rw [HlL.out]; exact hj)
        have hz14 : w1.heap.size ≤ w4.heap.size := (bot hB.out HBw4.out).size
        have hzw4 : w.heap.size ≤ w4.heap.size := (bot HB1.out (bot hB.out HBw4.out)).size
        go_wp2_with (at_builtin; refine wpList_extend (by rfl) _ _ _ (by rfl) elt_dirP Tryz.underlying31 (by rfl) (Own.nil_ rDir w4 w4.heap.size 54 (S := fun _ => False) (fun b h => h.elim)) (fun b => b ≠ RB ∧ b < w4.heap.size) (L.take j) _ _ _ (by rfl) HT3.out (by intro b hb he; simp [Value.ownBlock] at he) (by rw [Hlt1.out]; simp [maxLen]; omega) (by rw [Hlt1.out]; simp; omega) (by simp) ?_)
        intro v5 w5 hown5 hgrow5 hat5
        have HB5 : Hid (Below w4.heap.size w4 w5) := (Below.refl _ _).grown hgrow5 (Nat.le_refl _) (fun k hk => by simp [Value.ownBlock] at hk)
        obtain ⟨S5, hS5⟩ : ∃ S5 : Nat → Prop, S5 = (fun b => ¬ b = RB ∧ b < w4.heap.size) := ⟨_, rfl⟩
        have HO5 : Hid (Own rDir w5 w4.heap.size 54 v5 (L.take j) S5) := by unfold Hid; rw [hS5]; exact hown5
        have HS5a : Hid (∀ b, b < w.heap.size → S5 b) := fun b hb => by
          rw [hS5]
          have h1 := HwR.out
          exact ⟨by omega, by omega⟩
        have HS5b : Hid (∀ b, S5 b → b ≠ RB) := fun b hb => by
          rw [hS5] at hb
          exact hb.1
        have HBw5 := Lib.hid (bot HBw4.out HB5.out)
        have hz5 := HB5.out.size
        clear hown5 hgrow5 hat5 hS5
        obtain ⟨q0, _⟩ := HQ.out w5 (bot hB.out HBw5.out)
        rw [HA.out] at q0
        obtain ⟨y0, y1, y2, y3, y4, y5, y6, y7, y8⟩ := HC9.out w5 HBw5.out
        go_wp2_with (at_builtin; refine wpList_push (by rfl) _ _ _ (by rfl) elt_dirP Tryz.underlying31 (by rfl) (HO5.out.alloc _) ⟨w5.heap.size, 0, none⟩ 1 [.slice pA d.path.length pc, .string d.pack.name, .int .i64 d.pack.ver.major, .int .i64 d.pack.ver.minor, .int .i64 d.pack.ver.patch, .slice a1 d.pack.deps.length c1, .slice a2 d.pack.peers.length c2, .slice a3 d.pack.opts.length c3, .int .i64 d.node] d (by rfl) (HHd.out _ S5 (bal HBw5.out _) HS5a.out) (news_of w5 #[.slice pA d.path.length pc, .string d.pack.name, .int .i64 d.pack.ver.major, .int .i64 d.pack.ver.minor, .int .i64 d.pack.ver.patch, .slice a1 d.pack.deps.length c1, .slice a2 d.pack.peers.length c2, .slice a3 d.pack.opts.length c3, .int .i64 d.node] _) (by rw [Hlt1.out]; unfold maxLen; omega) (by rw [Hlt1.out]; omega) (by simp; omega) (w5.heap.size + 1) (by simp) ?_)
        intro g9 cap9 w9 hown9 hgrow9 hat9 hlt9
        have HB9 := Lib.hid (bgrown (bal HB5.out _) hgrow9 (HO5.out.alloc _) (Nat.le_refl _))
        have HO9 := Lib.hid hown9
        have Hlb9 := Lib.hid hown9.lt
        have hz9 := HB9.out.size
        have Hdl : Hid ((L.drop j).length = k - j) := by unfold Hid; rw [List.length_drop, HlL.out]
        have Hl9 : Hid ((L.take j ++ [d]).length = j + 1) := by unfold Hid; rw [List.length_append, Hlt1.out]; rfl
        obtain ⟨X, hX⟩ : ∃ X, X = (if oc = j then OA else OA.map (fun x : Addr => x.add (j * 9))) := ⟨_, rfl⟩
        have HT4 : Hid (SlV rDir w9 (fun b => b ≠ RB ∧ b < w4.heap.size) (L.drop j) (.slice X (k - j) (oc - j))) := by
          unfold Hid
          rw [hX]
          exact SlV.cutD (HLs.out.belowSize HB9.out) j hj
        have hsl : ∀ W, (Instr.slice 31 (.slice OA k oc) (some (.int .i64 (j : Int))) none none).run Tryz.prog W = .ok (.slice X (k - j) (oc - j)) W := fun W => by
          rw [hX]
          exact run_fromD (P := Tryz.prog) (t := 31) (e := 54) (z := 9) Tryz.underlying31 (by kernel_rfl) (fun _ => by kernel_rfl) OA k oc j hj W
        clear hown9 hgrow9 hat9 hlt9 q0 y0 y1 y2 y3 y4 y5 y6 y7 y8 hX HT3 HLs HO5
        go_wp2_with (at_builtin; refine wpList_extend (by rfl) _ _ _ (by rfl) elt_dirP Tryz.underlying31 (by rfl) HO9.out (fun b => b ≠ RB ∧ b < w4.heap.size) (L.drop j) _ _ _ (by rfl) HT4.out (by intro b hb he; have := (Hlb9.out b he).1; omega) (by rw [Hl9.out, Hdl.out]; unfold maxLen; omega) (by rw [Hl9.out, Hdl.out]; omega) hz9 ?_)
        intro v6 w6 hown6 hgrow6 hat6
        have HB6 := Lib.hid (bgrown HB9.out hgrow6 HO9.out (Nat.le_refl _))
        rw [← Hput.out, ← HSt.out] at hown6
        have HO6 := Lib.hid hown6
        have HBall := Lib.hid (bot hB.out (bot HBw4.out HB6.out))
        have HS6 : Hid (∀ b, (S5 b ∨ ((b ≠ RB ∧ b < w4.heap.size) ∧ b < w9.heap.size)) → b ≠ RB) := fun b hb => by
          rcases hb with hb | hb
          · exact HS5b.out b hb
          · exact hb.1.1
        clear hown6 hgrow6 hat6 HO9 HT4 hsl
        go_wp2_with fail
        go_roundw
        case rel =>
          exact ⟨k + 1, _, _, _, by omega, rfl, by go_num, HO6.out, ⟨hz14, HS6.out⟩, HBall.out⟩
        case measure => simp [intOf]; omega
end Go.Proofs.YtminjjdnmpaaoaaGreatDoor
