/-
  The document's placer: run: walked.
  A world of the placer's laws: its old tree: walked.
-/
import Derived.Test.YtminjjdnmpaaoaaGreatDoorPp41
import Derived.Test.YtminjjdnmpaaoaaGreatDoorPp43
import Derived.Test.YtminjjdnmpaaoaaGreatDoorPp17
import Derived.Deep.CutRange
set_option autoImplicit false
set_option relaxedAutoImplicit false
set_option linter.unusedVariables false
set_option linter.unusedSimpArgs false
namespace Go.Proofs.YtminjjdnmpaaoaaGreatDoor
open Go.Rows Go.RowKit Go.Shelf Go.Sort

theorem SlV.notB {α : Type} {r : Rp α} {w : World} {S S' : Nat → Prop} {l : List α} {v : Value} {TB : Nat} (h : SlV r w S l v) (hS : ∀ b, S b → b ≠ TB → S' b) (hh : ∀ x cs, r.holds w S x cs → r.holds w S' x cs) (hne : ∀ x cs, r.holds w S x cs → ∃ (j : Nat) (u : Value), cs[j]? = some u ∧ ∀ o : Nat, w.cell? ⟨TB, o, none⟩ ≠ some u) : SlV r w S' l v := by
  obtain ⟨A', c', h1, h2, h3, h4, h5⟩ := h
  refine ⟨A', c', h1, h2, h3, h4, fun hn => ?_⟩
  obtain ⟨b, o, e, hSb, hb, hr⟩ := h5 hn
  refine ⟨b, o, e, hS b hSb ?_, hb, fun i x hx => ?_⟩
  · intro eb
    subst eb
    obtain ⟨cs, g1, g2⟩ := hr 0 _ (List.getElem?_eq_getElem hn)
    obtain ⟨j, u, k1, k2⟩ := hne _ _ g1
    exact k2 _ (g2 j u k1)
  · obtain ⟨cs, g1, g2⟩ := hr i x hx
    exact ⟨cs, hh _ _ g1, g2⟩
theorem tree_cell {w : World} {TB : Nat} {t : TypeId} (h : w.heap[TB]? = some (.cells #[.slice none 0 0] t (0, 0))) (o : Nat) (u : Value) (hu : ∀ A n c, u ≠ .slice A n c) : w.cell? ⟨TB, o, none⟩ ≠ some u := by
  cases o with
  | zero => rw [cell_of_row _ _ 0 _ _ _ h]; intro e; exact hu _ _ _ (Option.some.inj e).symm
  | succ o => simp [World.cell?, h]
theorem slv_notree {w : World} {S : Nat → Prop} {l : List Dir} {v : Value} {TB : Nat} {t : TypeId} (h : SlV rDir w S l v) (hT : w.heap[TB]? = some (.cells #[.slice none 0 0] t (0, 0))) : SlV rDir w (fun b => b ≠ TB) l v := by
  have hs : ∀ (xs : List ByteArray) v, SlV rStr w S xs v → SlV rStr w (fun b => b ≠ TB) xs v := fun xs v h => h.notB (TB := TB) (fun b _ hb => hb) (fun x cs hh => hh) fun x cs hh => by
    obtain ⟨rfl, _⟩ := hh
    exact ⟨0, _, rfl, fun o => tree_cell hT o _ (fun A n c e => by cases e)⟩
  have hp : ∀ (xs : List Spn) v, SlV rSpn w S xs v → SlV rSpn w (fun b => b ≠ TB) xs v := fun xs v h => h.notB (TB := TB) (fun b _ hb => hb) (fun x cs hh => hh) fun x cs hh => by
    obtain ⟨rfl, _⟩ := hh
    exact ⟨0, _, rfl, fun o => tree_cell hT o _ (fun A n c e => by cases e)⟩
  have hd : ∀ (xs : List Dep) v, SlV rDep w S xs v → SlV rDep w (fun b => b ≠ TB) xs v := fun xs v h => h.notB (TB := TB) (fun b _ hb => hb) (fun x cs hh => by
    obtain ⟨s0, g1, g2, g3⟩ := hh
    exact ⟨s0, g1, g2, hp _ _ g3⟩) fun x cs hh => by
    obtain ⟨s0, rfl, _⟩ := hh
    exact ⟨0, _, rfl, fun o => tree_cell hT o _ (fun A n c e => by cases e)⟩
  refine h.notB (TB := TB) (fun b _ hb => hb) (fun x cs hh => ?_) fun x cs hh => ?_
  · obtain ⟨s0, s1, s2, s3, rfl, hp, g1, g2, g3, g4, h1, h2, h3, g5⟩ := hh
    exact ⟨s0, s1, s2, s3, rfl, hs _ _ hp, g1, g2, g3, g4, hd _ _ h1, hd _ _ h2, hd _ _ h3, g5⟩
  · obtain ⟨s0, s1, s2, s3, rfl, _⟩ := hh
    exact ⟨1, _, rfl, fun o => tree_cell hT o _ (fun A n c e => by cases e)⟩

set_option maxHeartbeats 12800000 in
set_option maxRecDepth 100000 in
theorem refPlaceRun_any (gA : Option Addr) (gn gc : Nat) (pA : Option Addr) (pn pc : Nat) (dec nod : Int) (oA : Option Addr) (on oc : Nat) (like : Bool) (ol : List Dir) (q : PlIn) (w : World) (S : Nat → Prop) (ht : Tab w) (hg : SlV rNode w S q.g (.slice gA gn gc)) (hp : SlV rPack w S q.ps (.slice pA pn pc)) (ho : SlV rDir w S ol (.slice oA on oc)) (hold : q.old = if like = true then some ol else none) (hoz : ∀ d ∈ ol, d.path.length * 32 ≤ 140737488355328)
    (hdi : I64 q.dirs) (hpi : I64 q.path) (hgz : q.g.length ≤ 1048576) (hpz : q.ps.length ≤ 1048576) :
    Calls Tryz.prog 13 #[.agg #[.slice gA gn gc], .slice pA pn pc, .agg #[.int .i64 dec, .int .i64 nod, .int .i64 q.dirs, .int .i64 q.path], .agg #[.slice oA on oc], .bool like] w fun e w' =>
      ∃ rv, e = .returned (.tuple #[.agg #[rv], .int .i64 (placeR q).2]) ∧ SlV rDir w' (fun _ => True) (placeR q).1 rv ∧ Below w.heap.size w w' := by
  obtain ⟨dd, hdd⟩ : ∃ d, d = q.dirs := ⟨_, rfl⟩
  obtain ⟨dp, hdp⟩ : ∃ d, d = q.path := ⟨_, rfl⟩
  rw [← hdd, ← hdp]
  have Hdd := Lib.hid hdd
  have Hdp := Lib.hid hdp
  have HE1 : Hid ((q.dirs < 1 ∨ 256 < q.dirs ∨ q.path < 1 ∨ 1024 < q.path) → placeR q = ([], 1)) := fun h => placeR_err (by unfold placeE; rw [if_pos h])
  have HE2 : Hid (¬ (q.dirs < 1 ∨ 256 < q.dirs ∨ q.path < 1 ∨ 1024 < q.path) → badOld q.old = true → placeR q = ([], 42)) := fun h h2 => placeR_err (by unfold placeE; rw [if_neg h, if_pos h2])
  have HE3 : Hid (¬ (q.dirs < 1 ∨ 256 < q.dirs ∨ q.path < 1 ∨ 1024 < q.path) → badOld q.old = false → mayPl q.g q.ps = false → placeR q = ([], 33)) := fun h h2 h3 => placeR_err (by unfold placeE; rw [if_neg h, if_neg (by rw [h2]; decide), if_pos h3])
  have HE4 : Hid (¬ (q.dirs < 1 ∨ 256 < q.dirs ∨ q.path < 1 ∨ 1024 < q.path) → badOld q.old = false → mayPl q.g q.ps = true → placeE q = dirsP q 258 0 ([dirZ0], [])) := fun h h2 h3 => by unfold placeE; rw [if_neg h, if_neg (by rw [h2]; decide), if_neg (by rw [h3]; decide)]
  have Ht := Lib.hid ht
  have Hg := Lib.hid (hg.more (S' := fun b => b < w.heap.size) fun b _ h => h)
  have Hp := Lib.hid (hp.more (S' := fun b => b < w.heap.size) fun b _ h => h)
  have Ho := Lib.hid (ho.more (S' := fun b => b < w.heap.size) fun b _ h => h)
  have Hold := Lib.hid hold
  have Hoz := Lib.hid hoz
  have Hi : Hid (I64 q.dirs ∧ I64 q.path ∧ q.g.length ≤ 1048576 ∧ q.ps.length ≤ 1048576) := ⟨hdi, hpi, hgz, hpz⟩
  have HNl := fun (W : World) => Lib.hid (SlV.nil_ rDir W (fun _ => True))
  clear ht hg hp ho hold hoz hdi hpi hgz hpz hdd hdp
  generalize hR : placeR q = R at *
  have HR := Lib.hid hR
  clear hR
  go_enter Tryz.func13, Tryz.ntmps13
  go_upto_region 1 with (fail)
  obtain ⟨w3, hw3⟩ : ∃ w3, w3 = (((w.alloc (.cells #[.slice gA gn gc] 24)).alloc (.cells #[.int .i64 dec, .int .i64 nod, .int .i64 dd, .int .i64 dp] 30)).alloc (.cells #[.slice oA on oc] 33)).alloc (.cells #[.slice none 0 0] 33) := ⟨_, rfl⟩
  have hz1 : (w.alloc (.cells #[.slice gA gn gc] 24)).heap.size = w.heap.size + 1 := by simp
  have hz2 : ((w.alloc (.cells #[.slice gA gn gc] 24)).alloc (.cells #[.int .i64 dec, .int .i64 nod, .int .i64 dd, .int .i64 dp] 30)).heap.size = w.heap.size + 2 := by simp
  have hz3 : (((w.alloc (.cells #[.slice gA gn gc] 24)).alloc (.cells #[.int .i64 dec, .int .i64 nod, .int .i64 dd, .int .i64 dp] 30)).alloc (.cells #[.slice oA on oc] 33)).heap.size = w.heap.size + 3 := by simp
  have hB3 : Below w.heap.size w w3 := by rw [hw3]; exact bal (bal (bal (bal (Below.refl _ _) _) _) _) _
  have hq1 : w3.heap[w.heap.size]? = some (.cells #[.slice gA gn gc] 24 (0, 0)) := by
    rw [hw3]; exact (Below.heap_alloc _ _ _ (by rw [hz3]; omega)).trans ((Below.heap_alloc _ _ _ (by rw [hz2]; omega)).trans ((Below.heap_alloc _ _ _ (by rw [hz1]; omega)).trans (heap_new _ _)))
  have hq2 : w3.heap[w.heap.size + 1]? = some (.cells #[.int .i64 dec, .int .i64 nod, .int .i64 dd, .int .i64 dp] 30 (0, 0)) := by
    rw [hw3, ← hz1]; exact (Below.heap_alloc _ _ _ (by rw [hz3, hz1]; omega)).trans ((Below.heap_alloc _ _ _ (by simp)).trans (heap_new _ _))
  have hq4 : w3.heap[w.heap.size + 2]? = some (.cells #[.slice oA on oc] 33 (0, 0)) := by
    rw [hw3, ← hz2]; exact (Below.heap_alloc _ _ _ (by simp)).trans (heap_new _ _)
  have hq3 : w3.heap[w.heap.size + 3]? = some (.cells #[.slice none 0 0] 33 (0, 0)) := by
    rw [hw3, ← hz3]; exact heap_new _ _
  rw [← hw3]
  have HB3 := Lib.hid hB3
  obtain ⟨GB, hGB⟩ : ∃ k, k = w.heap.size := ⟨_, rfl⟩
  obtain ⟨LB, hLB⟩ : ∃ k, k = w.heap.size + 1 := ⟨_, rfl⟩
  obtain ⟨OB, hOB⟩ : ∃ k, k = w.heap.size + 2 := ⟨_, rfl⟩
  obtain ⟨TB, hTB⟩ : ∃ k, k = w.heap.size + 3 := ⟨_, rfl⟩
  rw [← hGB] at hq1
  rw [← hLB] at hq2
  rw [← hOB] at hq4
  rw [← hTB] at hq3
  have HTB : Hid (w.heap.size ≤ TB) := by unfold Hid; omega
  have hlt1 : GB < w3.heap.size := (Array.getElem?_eq_some_iff.1 hq1).1
  have hlt2 : LB < w3.heap.size := (Array.getElem?_eq_some_iff.1 hq2).1
  have hlt3 : TB < w3.heap.size := (Array.getElem?_eq_some_iff.1 hq3).1
  have hlt4 : OB < w3.heap.size := (Array.getElem?_eq_some_iff.1 hq4).1
  have HQ : Hid (∀ W, Below w3.heap.size w3 W → W.heap[GB]? = some (.cells #[.slice gA gn gc] 24 (0, 0)) ∧ W.heap[LB]? = some (.cells #[.int .i64 dec, .int .i64 nod, .int .i64 dd, .int .i64 dp] 30 (0, 0)) ∧ W.heap[OB]? = some (.cells #[.slice oA on oc] 33 (0, 0)) ∧ W.heap[TB]? = some (.cells #[.slice none 0 0] 33 (0, 0))) := fun W hW => ⟨(hW.block _ hlt1).trans hq1, (hW.block _ hlt2).trans hq2, (hW.block _ hlt4).trans hq4, (hW.block _ hlt3).trans hq3⟩
  have HEr : Hid (∀ W, Below w3.heap.size w3 W → W.heap[TB]? = some (.cells #[.slice none 0 0] 33 (0, 0)) ∧ W.frozen? ⟨TB, 0, none⟩ = false ∧ W.cell? ⟨TB, 0, none⟩ = some (.slice none 0 0) ∧ Below w.heap.size w (W.setCell ⟨TB, 0, none⟩ (.slice none 0 0))) := fun W hW => by
    have h := (hW.block _ hlt3).trans hq3
    exact ⟨h, frozen_row h, cell_of_row _ _ 0 _ _ _ h, (bot HB3.out hW).setCell (p := ⟨TB, 0, none⟩) HTB.out _⟩
  rw [← hTB, ← hOB, ← hLB, ← hGB]
  clear hw3 hz1 hz2 hz3 hB3 hGB hLB hOB hTB
  have l2 := cell_of_row _ _ 2 _ _ _ hq2
  have l3 := cell_of_row _ _ 3 _ _ _ hq2
  have o0 := cell_of_row _ _ 0 _ _ _ hq4
  obtain ⟨t0, tf, tc, tb⟩ := HEr.out w3 (Below.refl _ _)
  have Ht0 := Lib.hid t0
  have Htb := Lib.hid tb
  clear hq1 hq2 hq3 hq4 t0 tb
  by_cases h1 : dd < 1
  case pos =>
    have Hr := Lib.hid (HE1.out (.inl (by rw [← Hdd.out]; exact h1)))
    clear HE1 HE2 HE3 HE4
    go_wp2_with fail
    refine ret_tree rfl rfl rfl rfl (heap_setT Ht0.out _) Tryz.underlying33 rfl (by kernel_rfl) ⟨.slice none 0 0, ?_, ?_, Htb.out⟩
    · rw [Hr.out]; rfl
    · rw [Hr.out]; exact (HNl _).out
  by_cases h2 : 256 < dd
  case pos =>
    have Hr := Lib.hid (HE1.out (.inr (.inl (by rw [← Hdd.out]; exact h2))))
    clear HE1 HE2 HE3 HE4
    go_wp2_with fail
    refine ret_tree rfl rfl rfl rfl (heap_setT Ht0.out _) Tryz.underlying33 rfl (by kernel_rfl) ⟨.slice none 0 0, ?_, ?_, Htb.out⟩
    · rw [Hr.out]; rfl
    · rw [Hr.out]; exact (HNl _).out
  by_cases h3 : dp < 1
  case pos =>
    have Hr := Lib.hid (HE1.out (.inr (.inr (.inl (by rw [← Hdp.out]; exact h3)))))
    clear HE1 HE2 HE3 HE4
    go_wp2_with fail
    refine ret_tree rfl rfl rfl rfl (heap_setT Ht0.out _) Tryz.underlying33 rfl (by kernel_rfl) ⟨.slice none 0 0, ?_, ?_, Htb.out⟩
    · rw [Hr.out]; rfl
    · rw [Hr.out]; exact (HNl _).out
  by_cases h4 : 1024 < dp
  case pos =>
    have Hr := Lib.hid (HE1.out (.inr (.inr (.inr (by rw [← Hdp.out]; exact h4)))))
    clear HE1 HE2 HE3 HE4
    go_wp2_with fail
    refine ret_tree rfl rfl rfl rfl (heap_setT Ht0.out _) Tryz.underlying33 rfl (by kernel_rfl) ⟨.slice none 0 0, ?_, ?_, Htb.out⟩
    · rw [Hr.out]; rfl
    · rw [Hr.out]; exact (HNl _).out
  have Hlim : Hid (¬ (q.dirs < 1 ∨ 256 < q.dirs ∨ q.path < 1 ∨ 1024 < q.path)) := by unfold Hid; rw [← Hdd.out, ← Hdp.out]; omega
  have hdz : dd ≤ 256 := by omega
  have hpz : dp ≤ 1024 := by omega
  clear HE1
  go_upto_if 39 with fail
  go_cut [12] from 40 to 44 (fun v wx => badOld q.old = false ∧ Hid (Below w3.heap.size w3 wx))
  case first =>
    cases hlk : like with
    | false =>
      have hbo : badOld q.old = false := by rw [Hold.out, hlk]; rfl
      subst hlk
      go_wp2_with fail
      go_meet
      exact ⟨hbo, Below.refl _ _⟩
    | true =>
      have hbo : badOld q.old = decide (checkE ol ≠ 0) := by rw [Hold.out, hlk]; rfl
      have HCh := Lib.hid (refCheck_any oA on oc ol w3 _ Hoz.out (Ho.out.belowSize HB3.out))
      have Hbo := Lib.hid hbo
      have HE2' := Lib.hid (fun h => HE2.out Hlim.out h)
      clear hbo HE2 HE3 HE4
      subst hlk
      generalize checkE ol = ce at *
      go_wp2_with fail
      refine HCh.out.mono ?_
      rintro e w5 ⟨rfl, B5⟩
      by_cases hc : ce = 0
      · subst hc
        clear HE2'
        go_wp2_with fail
        go_meet
        exact ⟨by rw [Hbo.out]; rfl, B5⟩
      · have hcb : (ce != 0) = true := by show (!(ce == 0)) = true; rw [beq_eq_false_iff_ne.2 hc]; rfl
        have Hr := Lib.hid (HE2'.out (by rw [Hbo.out]; exact decide_eq_true hc))
        obtain ⟨t0, tf, tc, tb⟩ := HEr.out w5 B5
        have Ht0 := Lib.hid t0
        have Htb := Lib.hid tb
        clear hc HE2' t0 tb B5 l2 l3 o0
        go_wp2_with fail
        refine ret_tree rfl rfl rfl rfl (heap_setT Ht0.out _) Tryz.underlying33 rfl (by kernel_rfl) ⟨.slice none 0 0, ?_, ?_, Htb.out⟩
        · rw [Hr.out]; rfl
        · rw [Hr.out]; exact (HNl _).out
  case rest =>
  obtain ⟨hbo, HB4⟩ := hcut
  have HC4 : Hid (Below w3.heap.size w3 wc) := HB4
  generalize wc = w4 at *
  clear l2 l3 o0 tf tc Ht0 Htb HE2
  have HE3' := Lib.hid (HE3.out Hlim.out hbo)
  have HE4' := Lib.hid (HE4.out Hlim.out hbo)
  have HBw4 : Hid (Below w.heap.size w w4) := bot HB3.out HC4.out
  obtain ⟨gq, lq, oq, tq⟩ := HQ.out w4 HC4.out
  have g0 := cell_of_row _ _ 0 _ _ _ gq
  have HMy := Lib.hid (refMayPl_any gA gn gc pA pn pc q.g q.ps w4 _ (Hg.out.belowSize HBw4.out) (Hp.out.belowSize HBw4.out))
  clear HE3 HE4 hbo gq lq oq tq HB4
  cases hmy : mayPl q.g q.ps with
  | false =>
    have Hr := Lib.hid (HE3'.out hmy)
    rw [hmy] at HMy
    clear HE3' HE4' hmy
    go_wp2_with fail
    refine HMy.out.mono ?_
    rintro e w6 ⟨rfl, B6⟩
    obtain ⟨t0, tf, tc, tb⟩ := HEr.out w6 (bot HC4.out B6)
    have Ht0 := Lib.hid t0
    have Htb := Lib.hid tb
    clear t0 tb
    go_wp2_with fail
    refine ret_tree rfl rfl rfl rfl (heap_setT Ht0.out _) Tryz.underlying33 rfl (by kernel_rfl) ⟨.slice none 0 0, ?_, ?_, Htb.out⟩
    · rw [Hr.out]; rfl
    · rw [Hr.out]; exact (HNl _).out
  | true =>
  have HE := Lib.hid (HE4'.out hmy)
  have HMp := Lib.hid hmy
  rw [hmy] at HMy
  clear HE3' HE4' hmy
  go_wp2_with fail
  refine HMy.out.mono ?_
  rintro e w6 ⟨rfl, B6⟩
  have HB46 := Lib.hid (bot HC4.out B6)
  have HBw6 := Lib.hid (bot HBw4.out B6)
  clear B6 HMy g0 HC4 HBw4
  generalize w6 = w4 at *
  obtain ⟨gq, lq, oq, tq⟩ := HQ.out w4 HB46.out
  have g0 := cell_of_row _ _ 0 _ _ _ gq
  have l0 := cell_of_row _ _ 0 _ _ _ lq
  have l1 := cell_of_row _ _ 1 _ _ _ lq
  have l2 := cell_of_row _ _ 2 _ _ _ lq
  have l3 := cell_of_row _ _ 3 _ _ _ lq
  have o0 := cell_of_row _ _ 0 _ _ _ oq
  have Htq := Lib.hid tq
  have Hgq := Lib.hid gq
  clear gq lq oq tq HQ HEr
  go_upto_region 11 with (fail)
  obtain ⟨w5, hw5⟩ : ∃ w5, w5 = (w4.alloc (.cells #[.slice none 0 0, .string ⟨#[]⟩, .int .i64 0, .int .i64 0, .int .i64 0, .slice none 0 0, .slice none 0 0, .slice none 0 0, .int .i64 0] 54)).alloc (.cells #[.slice gA gn gc, .slice pA pn pc, .int .i64 dec, .int .i64 nod, .int .i64 dd, .int .i64 dp, .slice oA on oc, .bool like, .slice (some ⟨w4.heap.size, 0, none⟩) 1 1, .slice none 0 0] 87) := ⟨_, rfl⟩
  have hB5 : Below w4.heap.size w4 w5 := by rw [hw5]; exact bal (bal (Below.refl _ _) _) _
  have hq5 := two_newN w4 (.cells #[.slice none 0 0, .string ⟨#[]⟩, .int .i64 0, .int .i64 0, .int .i64 0, .slice none 0 0, .slice none 0 0, .slice none 0 0, .int .i64 0] 54) (.cells #[.slice gA gn gc, .slice pA pn pc, .int .i64 dec, .int .i64 nod, .int .i64 dd, .int .i64 dp, .slice oA on oc, .bool like, .slice (some ⟨w4.heap.size, 0, none⟩) 1 1, .slice none 0 0] 87)
  rw [← hw5] at hq5 ⊢
  obtain ⟨C, hC⟩ : ∃ C : DlCtx, C = ⟨w4, w4.heap.size + 1, gA, gn, gc, pA, pn, pc, dec, nod, oA, on, oc, like, ol, q⟩ := ⟨_, rfl⟩
  have hCok : C.Ok := by
    rw [hC]
    exact ⟨tab_below Ht.out HBw6.out, (Hg.out.belowSize HBw6.out).more fun b _ h => h, (Hp.out.belowSize HBw6.out).more fun b _ h => h, (Ho.out.belowSize HBw6.out).more fun b _ h => h, Hold.out, Hoz.out, Nat.le_succ _, Hi.out.1, Hi.out.2.1, Hi.out.2.2.1, Hi.out.2.2.2⟩
  have hPs : DlWd C w5 ([dirZ0], []) := by
    refine DlS.made C hCok (DB := w4.heap.size) (by rw [hC]; exact Nat.le_refl _) (by rw [hC]; exact (Nat.ne_of_lt (Nat.lt_succ_self _))) hq5.1 ?_ (by rw [hC]; exact hB5)
    rw [hC]
    show w5.heap[w4.heap.size + 1]? = _
    rw [hq5.2, Hdd.out, Hdp.out]
    rfl
  have hCP : w4.heap.size + 1 = C.P := by rw [hC]
  have HCok := Lib.hid hCok
  have HPs := Lib.hid hPs
  have HCw : Hid (C.w0 = w4) := by unfold Hid; rw [hC]
  have HCq : Hid (C.q = q) := by unfold Hid; rw [hC]
  have HCg : Hid (C.gA = gA ∧ C.gn = gn) := by unfold Hid; rw [hC]; exact ⟨rfl, rfl⟩
  have hGB4 : GB < w4.heap.size := (Array.getElem?_eq_some_iff.1 Hgq.out).1
  have HTq : Hid (∀ W, Below C.w0.heap.size C.w0 W → W.heap[TB]? = some (.cells #[.slice none 0 0] 33 (0, 0)) ∧ W.frozen? ⟨TB, 0, none⟩ = false ∧ W.cell? ⟨TB, 0, none⟩ = some (.slice none 0 0) ∧ (∀ v, Below w.heap.size w (W.setCell ⟨TB, 0, none⟩ v)) ∧ W.cell? ⟨GB, 0, none⟩ = some (.slice gA gn gc)) := fun W hW => by
    rw [HCw.out] at hW
    have h := (hW.block _ (Array.getElem?_eq_some_iff.1 Htq.out).1).trans Htq.out
    exact ⟨h, frozen_row h, cell_of_row _ _ 0 _ _ _ h, fun v => (bot HBw6.out hW).setCell (p := ⟨TB, 0, none⟩) HTB.out _, below_cell hW (cell_of_row _ _ 0 _ _ _ Hgq.out) hGB4⟩
  rw [hCP]
  clear hw5 hB5 hq5 hC hCok hPs hCP g0 l0 l1 l2 l3 o0 hGB4 Hgq Htq
  go_wp2_with fail
  go_loopw [15] (fun t wr => ∃ (k : Nat) (stk : PlSt), k ≤ 257 ∧ t = .int .i64 k ∧ Hid (DlWd C wr stk ∧ PlInv q k [] stk ∧ stk.2.length ≤ k * 384 ∧ dirsP q (258 - k) k stk = placeE q)) (fun t _ => 258 - (intOf t).toNat)
  case atStart => exact ⟨0, ([dirZ0], []), by decide, rfl, HPs.out, PlInv.start _, Nat.zero_le _, HE.out.symm⟩
  case round =>
    clear HPs HE
    obtain ⟨k, stk, hk, rfl, hh⟩ := hrel
    have HPw := Lib.hid hh.1
    have HIn := Lib.hid hh.2.1
    have HLn := Lib.hid hh.2.2.1
    have HGo := Lib.hid hh.2.2.2
    have hlen257 := hh.2.1.len
    clear hh
    obtain ⟨A, c, A', c', hr⟩ := HPw.out.read
    have x8 := hr.c8
    have Hr8 := Lib.hid hr
    have hk0 : (0 : Int) ≤ (k : Int) := by omega
    obtain ⟨N, hN⟩ : ∃ N, N = stk.1.length := ⟨_, rfl⟩
    rw [← hN] at x8 hlen257
    have HN := Lib.hid hN
    clear hN hr
    obtain ⟨t0, tf, tc, tb, g0⟩ := HTq.out wr HPw.out.base
    clear t0 tf tc tb
    by_cases hlt : k < N
    case neg =>
      have hI : ¬ (k : Int) < (N : Int) := by omega
      have Hr : Hid (R = (sortD stk.1, 0)) := by
        unfold Hid
        rw [← HR.out]
        exact placeR_ok (by rw [← HGo.out, dirsP_done (by rw [← HN.out]; exact hlt)])
      have HSo := Lib.hid (sortedD_any A N c stk.1 wr _ (by rw [HN.out]; exact Hr8.out.dirs) (by omega) (fun d hd => Nat.le_trans (path_len (HIn.out.names d hd).1) (HIn.out.names d hd).2))
      clear HGo hlt
      go_wp2_with fail
      refine HSo.out.mono ?_
      rintro e w7 ⟨rv, rfl, hs7, hb7⟩
      obtain ⟨t0, tf, tc, tb, _⟩ := HTq.out w7 (bot HPw.out.base hb7)
      obtain ⟨vA, vc, rfl, _, _⟩ := hs7.val
      have HSl : Hid (SlV rDir (w7.setCell ⟨TB, 0, none⟩ (.slice vA (sortD stk.1).length vc)) (fun _ => True) (sortD stk.1) (.slice vA (sortD stk.1).length vc)) := ((slv_notree hs7 t0).keep fun b hb _ => heap_setCell_other w7 ⟨TB, 0, none⟩ b _ hb).more fun _ _ _ => trivial
      have Ht0 := Lib.hid t0
      have Htb := Lib.hid (tb (.slice vA (sortD stk.1).length vc))
      clear t0 tb hs7 hb7 x8 g0 HSo
      generalize (sortD stk.1).length = sl at *
      go_wp2_with fail
      refine ret_tree rfl rfl rfl rfl (heap_setT Ht0.out _) Tryz.underlying33 rfl (by kernel_rfl) ⟨.slice vA sl vc, ?_, ?_, Htb.out⟩
      · rw [Hr.out]; rfl
      · rw [Hr.out]; exact HSl.out
    have hkn : (k : Int) < (N : Int) := by omega
    obtain ⟨f, hf⟩ : ∃ f, 258 - k = f + 1 := ⟨257 - k, by omega⟩
    have HSt : Hid (placeE q = match dirP q k stk with | .error c => .error c | .ok st' => dirsP q f (k + 1) st') := by
      unfold Hid; rw [← HGo.out, hf, dirsP_step (by rw [← HN.out]; exact hlt)]; cases dirP q k stk <;> rfl
    have hfe : f = 258 - (k + 1) := by omega
    subst hfe
    obtain ⟨d, hd⟩ : ∃ d, stk.1[k]? = some d := ⟨_, List.getElem?_eq_getElem (by rw [← HN.out]; exact hlt)⟩
    obtain ⟨j, hj, hjl⟩ : ∃ j : Nat, d.node = (j : Int) ∧ j < q.g.length := by
      have h1 := (may_form HMp.out).1
      by_cases h0 : k = 0
      · rw [h0] at hd
        exact ⟨0, (HIn.out.root d hd).2.1, by omega⟩
      · obtain ⟨h2, h3, _⟩ := HIn.out.node k d hd h0
        exact ⟨d.node.toNat, by omega, by omega⟩
    obtain ⟨n, hn⟩ : ∃ n, q.g[j]? = some n := ⟨_, List.getElem?_eq_getElem hjl⟩
    obtain ⟨b, o, qA, qc, hA, hbl, _, y8, _, _, _⟩ := Hr8.out.dir hd
    rw [hj] at y8
    obtain ⟨gb, go, yA, yc, eA, ec, hgA, hgb, hgn, _, _, _, _, _, n5, _, hedg, _⟩ := Hr8.out.node HCok.out HPw.out.base (i := j) (n := n) (by rw [HCq.out]; exact hn)
    have hgA2 : gA = some ⟨gb, go, none⟩ := by rw [← HCg.out.1]; exact hgA
    rw [hgA2] at g0
    rw [HCg.out.2] at hgn
    have HEd : Hid (∀ W, Below C.w0.heap.size C.w0 W → SlV rEdge W (fun b => b < C.w0.heap.size) n.edges (.slice eA n.edges.length ec)) := fun W hW => hedg.keep fun b hb _ => (hW.block b hb).trans (HPw.out.base.block b hb).symm
    have hm128 := may_edges HMp.out hn
    have HDk : Hid (DocK q k n d (dirP q k stk) 1 stk) := DocK.start HIn.out hd hj hn HLn.out
    have Hn := Lib.hid hn
    have Hj := Lib.hid hj
    have hj0 : (0 : Int) ≤ (j : Int) := by omega
    have hjI : (j : Int) < (gn : Int) := by omega
    have hgcap := slv_len Hg.out
    have hlN := Hr8.out.len.1
    rw [← HN.out] at hlN
    obtain ⟨ne, hne⟩ : ∃ k, k = n.edges.length := ⟨_, rfl⟩
    rw [← hne] at n5 HEd hm128
    have Hne := Lib.hid hne
    clear hgA hgA2 hedg hn hj hjl hf HGo hd hne HIn
    subst hA
    go_upto_region 14 with (fail)
    have r_g0 := cell_regrown g0
    have r_x8 := cell_regrown x8
    have r_y8 := cell_regrown y8
    have r_n5 := cell_regrown n5
    go_wp2_with fail
    refine wp_region_qb (by kernel_rfl) (by kernel_rfl) ?_
    repeat (go_big_quiet_step (first | fail))
    refine wpQuiet_nil ?_
    intro w6 B6
    have HP6 := Lib.hid (HPw.out.keep B6)
    clear r_g0 r_x8 r_y8 r_n5 g0 x8 y8 n5 B6 HPw Hr8
    generalize dirP q k stk = RD at *
    go_wp2_with fail
    go_loopw [17] (fun t wr => ∃ (kd : Nat) (s2 : PlSt), 1 ≤ kd ∧ kd ≤ 4 ∧ t = .int .i64 (kd : Int) ∧ Hid (DocK q k n d RD kd s2 ∧ DlWd C wr s2)) (fun t _ => 4 - (intOf t).toNat)
    case atStart => exact ⟨1, stk, by decide, by decide, rfl, HDk.out, HP6.out⟩
    case round =>
      clear HDk HP6
      obtain ⟨kd, s2, hkd1, hkd4, rfl, hh⟩ := hrel
      have HD2 := Lib.hid hh.1
      have HP2 := Lib.hid hh.2
      clear hh
      by_cases hk3 : kd ≤ 3
      case neg =>
        have hI : ¬ (kd : Int) ≤ 3 := by omega
        have hke : kd = 4 := by omega
        have HL : Hid (RD = .ok s2 ∧ PlInv q (k + 1) [] s2 ∧ s2.2.length ≤ (k + 1) * 384) := DocK.last (by rw [← hke]; exact HD2.out)
        have HS2 : Hid (dirsP q (258 - (k + 1)) (k + 1) s2 = placeE q) := by unfold Hid; rw [HSt.out, HL.out.1]
        have hk2 : k + 1 ≤ 257 := by omega
        clear HSt HD2 hke
        go_wp2_with fail
        go_roundw
        case rel => exact ⟨k + 1, s2, hk2, by go_num, HP2.out, HL.out.2.1, HL.out.2.2, HS2.out⟩
        case measure => simp [intOf]; omega
      have hkI : (kd : Int) ≤ 3 := by omega
      have HDg := Lib.hid (HD2.out.enter hkd1 hk3)
      clear HD2
      go_wp2_with fail
      go_loopw [18] (fun t wr => ∃ (m : Nat) (s3 : PlSt), m ≤ ne ∧ t = .int .i64 (m : Int) ∧ Hid (DocG q k n d RD kd m s3 ∧ DlWd C wr s3)) (fun t _ => ne - (intOf t).toNat)
      case atStart => exact ⟨0, s2, Nat.zero_le _, rfl, HDg.out, HP2.out⟩
      case round =>
        clear HDg HP2
        obtain ⟨m, s3, hm, rfl, hh⟩ := hrel
        have HD3 := Lib.hid hh.1
        have HP3 := Lib.hid hh.2
        clear hh
        have hm0 : (0 : Int) ≤ (m : Int) := by omega
        by_cases hmn : m < ne
        case neg =>
          have hI : ¬ (m : Int) < (ne : Int) := by omega
          have hme : m = n.edges.length := by have := Hne.out; omega
          have HDn : Hid (DocK q k n d RD (kd + 1) s3) := DocG.done_ (by rw [← hme]; exact HD3.out) hkd1 (by rw [← Hne.out]; exact hm128)
          clear HD3 hme
          go_wp2_with fail
          go_roundw
          case rel => exact ⟨kd + 1, s3, by omega, by omega, by go_num, HDn.out, HP3.out⟩
          case measure => simp [intOf]; omega
        have hmI : (m : Int) < (ne : Int) := by omega
        obtain ⟨e, he⟩ : ∃ e, n.edges[m]? = some e := ⟨_, List.getElem?_eq_getElem (by have := Hne.out; omega)⟩
        obtain ⟨eb, eo, cs, hA, _, hb1, hhd, hcell⟩ := (HEd.out wr HP3.out.base).elem he
        obtain ⟨rfl, hlz, hti⟩ := hhd
        have c0 := hcell 0 _ rfl
        have c1 := hcell 1 _ rfl
        simp only [rEdge, Nat.add_zero] at c0 c1
        obtain ⟨e1, e2, e3, e4, _⟩ := may_edge HMp.out Hn.out (List.mem_of_getElem? he)
        obtain ⟨lb, tt⟩ := e
        simp only at c0 c1 hlz hti e1 e2 e3 e4
        obtain ⟨tn, rfl⟩ : ∃ tn : Nat, tt = (tn : Int) := ⟨tt.toNat, by omega⟩
        obtain ⟨y, hy⟩ : ∃ y, q.g[tn]? = some y := ⟨_, List.getElem?_eq_getElem (by omega)⟩
        obtain ⟨x, hx⟩ : ∃ x, q.ps[tn]? = some x := by
          obtain ⟨_, _, h3, _⟩ := may_form HMp.out
          exact ⟨_, List.getElem?_eq_getElem (by have := (List.getElem?_eq_some_iff.1 hy).1; omega)⟩
        have hyn : y.name = lb := by
          rw [← e3, Int.toNat_natCast]; unfold nodeAt; rw [List.getD_eq_getElem?_getD, hy]; rfl
        have hxn : x.name = y.name := by
          rw [hyn, ← e4, Int.toNat_natCast]; unfold packAt; rw [List.getD_eq_getElem?_getD, hx]; rfl
        obtain ⟨done, i1, i2⟩ := HD3.out.inv
        have hl9 : s3.2.length ≤ 900000 := by have := HD3.out.len; omega
        have hone := oneD_any C HCok.out wr s3 HP3.out (at_ := k) (done := done) (by rw [HCq.out]; exact i1) HD3.out.here Hj.out (m := n) (by rw [HCq.out]; exact Hn.out) lb tn hlz (n := y) (by rw [HCq.out]; exact hy) hyn (x := x) (by rw [HCq.out]; exact hx) hxn hl9 kd (by omega) (by rw [HCq.out]; exact fun h => i2.not (may_labels HMp.out Hn.out) he h)
        rw [HCq.out] at hone
        have Hone := Lib.hid hone
        have HSk : Hid (kindP q n ⟨lb, (tn : Int)⟩ ≠ kd → DocG q k n d RD kd (m + 1) s3) := fun h => HD3.out.skip he h
        have HOk : Hid (∀ st', kindP q n ⟨lb, (tn : Int)⟩ = kd → stepE q k kd ⟨lb, (tn : Int)⟩ s3 = .ok st' → DocG q k n d RD kd (m + 1) st') := fun st' h1 h2 => HD3.out.ok HMp.out (by rw [← Hdp.out]; exact hpz) (by rw [← Hdd.out]; exact hdz) Hn.out he h1 h2
        have HEr2 : Hid (∀ c, kindP q n ⟨lb, (tn : Int)⟩ = kd → stepE q k kd ⟨lb, (tn : Int)⟩ s3 = .error c → R = ([], c)) := fun c h1 h2 => by
          rw [← HR.out]
          exact placeR_err (by rw [HSt.out, HD3.out.err he h1 h2])
        clear hone hcell i1 i2 hyn hxn hx hy e1 e2 e3 e4 hlz hti hl9 HD3
        subst hA
        go_wp2_with fail
        refine Hone.out.mono ?_
        rintro e w7 (⟨h1, rfl, hP7, _⟩ | ⟨h1, ⟨c, h2, rfl, hc, hP7, _⟩ | ⟨st', h2, rfl, hP7, _⟩⟩)
        · have HP7 := Lib.hid hP7
          have HD7 := Lib.hid (HSk.out h1)
          clear h1 hP7 HSk HOk HEr2 Hone c0 c1
          go_wp2_with fail
          go_roundw
          case rel => exact ⟨m + 1, s3, by omega, by go_num, HD7.out, HP7.out⟩
          case measure => simp [intOf]; omega
        · have Hr := Lib.hid (HEr2.out c h1 h2)
          obtain ⟨t0, tf, tc, tb, _⟩ := HTq.out w7 hP7.base
          have Ht0 := Lib.hid t0
          have Htb := Lib.hid (tb (.slice none 0 0))
          clear h1 h2 hP7 HSk HOk HEr2 Hone c0 c1 t0 tb
          rcases hc with rfl | rfl | rfl
          all_goals
            go_wp2_with fail
            refine ret_tree rfl rfl rfl rfl (heap_setT Ht0.out _) Tryz.underlying33 rfl (by kernel_rfl) ⟨.slice none 0 0, ?_, ?_, Htb.out⟩
            · rw [Hr.out]; rfl
            · rw [Hr.out]; exact (HNl _).out
        · have HP7 := Lib.hid hP7
          have HD7 := Lib.hid (HOk.out st' h1 h2)
          clear h1 h2 hP7 HSk HOk HEr2 Hone c0 c1
          go_wp2_with fail
          go_roundw
          case rel => exact ⟨m + 1, st', by omega, by go_num, HD7.out, HP7.out⟩
          case measure => simp [intOf]; omega
end Go.Proofs.YtminjjdnmpaaoaaGreatDoor
set_option autoImplicit false
set_option relaxedAutoImplicit false
set_option linter.unusedVariables false
set_option linter.unusedSimpArgs false
namespace Go.Proofs.YtminjjdnmpaaoaaGreatDoor
open Go.Rows Go.RowKit Go.Shelf Go.Sort

set_option maxHeartbeats 1600000 in
set_option maxRecDepth 100000 in
theorem oldW_any (kA mA nA lA vA : Option Addr) (kn kc mn mc nn nc ln lc vn vc : Nat) (dev : Bool) (dec nod dirs path : Int) (oA : Option Addr) (on oc : Nat) (like : Bool) (ol : List Dir) (w : World) (S : Nat → Prop) (ho : SlV rDir w S ol (.slice oA on oc)) (hoz : ∀ d ∈ ol, d.path.length * 32 ≤ 140737488355328) :
    Calls Tryz.prog 12 #[.agg #[.slice kA kn kc, .slice mA mn mc, .slice nA nn nc, .slice lA ln lc, .slice vA vn vc, .bool dev, .int .i64 dec, .int .i64 nod, .int .i64 dirs, .int .i64 path, .slice oA on oc, .bool like]] w fun e w' =>
      ∃ ov, e = .returned ov ∧ OldV w' (fun b => b < w'.heap.size) ov (if like = true then some ol else none) ∧ Below w.heap.size w w' := by
  have Ho := Lib.hid (ho.more (S' := fun b => b < w.heap.size) fun b _ h => h)
  have Hoz := Lib.hid hoz
  clear ho hoz
  go_enter Tryz.func12, Tryz.ntmps12
  go_upto_region 1 with (fail)
  obtain ⟨w1, hw1⟩ : ∃ w1, w1 = w.alloc (.cells #[.slice kA kn kc, .slice mA mn mc, .slice nA nn nc, .slice lA ln lc, .slice vA vn vc, .bool dev, .int .i64 dec, .int .i64 nod, .int .i64 dirs, .int .i64 path, .slice oA on oc, .bool like] 35) := ⟨_, rfl⟩
  have hq : w1.heap[w.heap.size]? = some (.cells #[.slice kA kn kc, .slice mA mn mc, .slice nA nn nc, .slice lA ln lc, .slice vA vn vc, .bool dev, .int .i64 dec, .int .i64 nod, .int .i64 dirs, .int .i64 path, .slice oA on oc, .bool like] 35 (0, 0)) := by rw [hw1]; exact heap_new _ _
  have HB1 : Hid (Below w.heap.size w w1) := by unfold Hid; rw [hw1]; exact bal (Below.refl _ _) _
  rw [← hw1]
  have c10 := cell_of_row _ _ 10 _ _ _ hq
  have c11 := cell_of_row _ _ 11 _ _ _ hq
  clear hw1 hq
  cases hlk : like with
  | false =>
    subst hlk
    go_wp2_with fail
    go_ret
    exact ⟨_, rfl, .inl ⟨rfl, rfl⟩, HB1.out⟩
  | true =>
    subst hlk
    go_wp2_with fail
    go_ret
    refine ⟨_, rfl, .inr ⟨_, _, oA, on, oc, ol, rfl, rfl, by simp, by simp, cell_of_row _ _ 0 _ _ _ (heap_new w1 _), ((Ho.out.belowSize HB1.out).alloc _).more (fun b _ h => h), Hoz.out⟩, bal HB1.out _⟩
end Go.Proofs.YtminjjdnmpaaoaaGreatDoor
