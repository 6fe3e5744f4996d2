/-
  Runs of ranks handed to an iterator, collected, put in order and joined: walked.
-/
import Derived.Test.YtghihopmiagcpaaGreatDoorRange
import Derived.Test.YtghihopmiagcpaaGreatDoorSpanF
import Derived.Test.YtghihopmiagcpaaGreatDoorShelfK
import Derived.Shelf.Abstract
import Derived.Shelf.RegionOpen
import Derived.OwnWalkIn
import Derived.TacticsInMore
import Derived.LoopNIn
import Derived.LoopIn
set_option autoImplicit false
set_option relaxedAutoImplicit false
set_option linter.unusedVariables false
set_option linter.unusedSimpArgs false
namespace Go.Proofs.YtghihopmiagcpaaGreatDoor
open Go.Rows Go.RowKit Go.Shelf Go.Sort

attribute [local go_sem] Oper.semAt_some

def encRk (x : Rk) : Value := .agg #[.int .i64 x.1, .int .i64 x.2]
theorem valuesRk_any (A : Option Addr) (n c : Nat) (w : World) :
    Calls Tryz.prog 68 #[.slice A n c] w fun e w' => e = .returned (.func (.func 92) #[] #[.pointer (some ⟨w.heap.size, 0, none⟩)]) ∧ w' = w.alloc (.cells #[.slice A n c] 54) := by
  go_enter Tryz.func68, Tryz.ntmps68
  go_wp2_with fail
  go_ret
  exact ⟨rfl, rfl⟩

set_option maxHeartbeats 2000000 in
set_option maxRecDepth 100000 in
theorem valuesRk_parts (n : Nat) (hn : 1 ≤ n) (Bv : Nat) (A : Option Addr) (m c : Nat) (l : List Rk) (w : World) (hb : w.cell? ⟨Bv, 0, none⟩ = some (.slice A m c)) (hl : SlV rRnk w (fun _ => True) l (.slice A m c)) (hm : m ≤ 1000000) :
    Parts encRk Fence.wide n Tryz.prog 92 #[.pointer (some ⟨Bv, 0, none⟩)] (fun _ => False) (fun j => j = Bv ∨ (0 < l.length ∧ ∃ o, A = some ⟨j, o, none⟩)) l w := by
  intro lp J Jx W hK hJ hJx hY h0
  have hmx := hl.n_eq
  have Hmx := Lib.hid hmx; clear hmx
  have hbW : W.cell? ⟨Bv, 0, none⟩ = some (.slice A m c) := (World.cell?_of_block (a := ⟨Bv, 0, none⟩) (hK Bv (.inl rfl)).2.1).trans hb
  have HK : Hid (∀ j, (j = Bv ∨ (0 < l.length ∧ ∃ o, A = some ⟨j, o, none⟩)) → W.heap[j]? = w.heap[j]?) := fun j hj => (hK j hj).2.1
  have HY := Lib.hid hY
  have HJ := Lib.hid hJ
  clear hK hY hJ
  refine callsIn_of_wp Tryz.func92 rfl trivial ?_ rfl
  simp only [Tryz.ntmps92, List.size_toArray, List.length_cons, List.length_nil, Nat.reduceAdd, Nat.reduceSub, Array.replicate_succ, Array.replicate_zero, List.push_toArray, List.append_toArray, List.nil_append, List.cons_append]
  gi_wp2
  gi_loopw [7] (fun i wr => ∃ k : Nat, k ≤ m ∧ i = .int .i64 k ∧ Hid (J k wr) ∧ Hid (∀ j, (j = Bv ∨ (0 < l.length ∧ ∃ o, A = some ⟨j, o, none⟩)) → wr.heap[j]? = w.heap[j]?)) (fun i _ => m - (intOf i).toNat)
  case atStart => exact ⟨0, Nat.zero_le _, rfl, h0, HK⟩
  case round =>
    clear h0 HK
    obtain ⟨k, hk, rfl, Hj, HK⟩ := hrel
    by_cases hlt : k < m
    case neg =>
      have hlt' : ¬ (k : Int) < (m : Int) := by omega
      obtain rfl : k = m := by omega
      gi_wp2
      go_end0
      refine ⟨⟨_, rfl⟩, .inl ?_⟩
      rw [← Hmx.out]
      exact Hj.out
    have hkx : k < l.length := by have := Hmx.out; omega
    have hkI : (k : Int) < (m : Int) := by omega
    have hk0 : (0 : Int) ≤ (k : Int) := by omega
    obtain ⟨b1, o1, cs1, rfl, _, hlt1, ⟨rfl, hi1, hi2⟩, hcell1⟩ := hl.elem (List.getElem?_eq_getElem hkx)
    have hkb : wr.heap[b1]? = w.heap[b1]? := HK.out b1 (.inr ⟨by omega, o1, rfl⟩)
    have c0 := (World.cell?_of_block (a := ⟨b1, o1 + k * 2, none⟩) hkb).trans (by have := hcell1 0 _ rfl; simpa [rRnk] using this)
    have c1 := (World.cell?_of_block (a := ⟨b1, o1 + k * 2 + 1, none⟩) hkb).trans (by have := hcell1 1 _ rfl; simpa [rRnk] using this)
    obtain ⟨fn, tmps, assign, body, hy, hR⟩ := HY.out k hkx (wr.alloc (.cells #[.int .i64 l[k].1, .int .i64 l[k].2] 59)) (HJ.out _ _ _ Hj.out (Turn.alloc _ _))
    unfold encRk at hy
    have hkb2 : ∀ j, (j = Bv ∨ (0 < l.length ∧ ∃ o, some (⟨b1, o1, none⟩ : Addr) = some ⟨j, o, none⟩)) → (wr.alloc (.cells #[.int .i64 l[k].1, .int .i64 l[k].2] 59)).heap[j]? = w.heap[j]? := fun j hj => by
      rw [← HK.out j hj]
      refine Below.heap_alloc _ _ _ ?_
      rcases hj with rfl | ⟨_, o, ho⟩
      · have := World.block_lt_of_cell? w _ hb
        have h1 := HK.out j (.inl rfl)
        exact Nat.lt_of_not_le fun hge => by
          rw [Array.getElem?_eq_none hge] at h1
          have := (Array.getElem?_eq_none_iff.1 h1.symm)
          simp at *
          omega
      · simp only [Option.some.injEq, Addr.mk.injEq] at ho
        obtain ⟨rfl, _⟩ := ho
        exact World.block_lt_of_cell? wr _ c0
    have HK2 := Lib.hid hkb2
    clear hcell1 hkb2 hkb
    gi_wp2
    refine hR.mono ?_
    rintro e W3 (⟨rfl, hJ3, hk3⟩ | ⟨rfl, hJx3⟩)
    · gi_wp2
      go_roundw
      case rel => exact ⟨k + 1, by omega, by go_num, hJ3, fun j hj => (hk3 j hj).trans (HK2.out j hj)⟩
      case measure => simp [intOf]; omega
    · gi_wp2
      refine bodyPost_ret (results_none rfl _ _ _) rfl ?_
      exact ⟨⟨_, rfl⟩, .inr hJx3⟩

set_option maxHeartbeats 4000000 in
set_option maxRecDepth 100000 in
theorem appendRk_any (Bv : Nat) (A : Option Addr) (m c : Nat) (l : List Rk) (w : World) (hb : w.cell? ⟨Bv, 0, none⟩ = some (.slice A m c)) (hl : SlV rRnk w (fun b => b < w.heap.size) l (.slice A m c)) (hI : ∀ x ∈ l, I64 x.1 ∧ I64 x.2) (hm : m ≤ 1000000) :
    Calls Tryz.prog 104 #[.slice none 0 0, .func (.func 92) #[] #[.pointer (some ⟨Bv, 0, none⟩)]] w fun e w' =>
      ∃ v, e = .returned v ∧ Own rRnk w' w.heap.size 59 v l (fun _ => False) ∧ Below w.heap.size w w' := by
  have hmx := hl.n_eq
  have Hmx := Lib.hid hmx; clear hmx
  have HI := Lib.hid hI; clear hI
  have hBv := cell_lt hb
  have hseq : ∀ (W : World), Below w.heap.size w W → Parts encRk Fence.wide 8 Tryz.prog 92 #[.pointer (some ⟨Bv, 0, none⟩)] (fun _ => False) (fun j => j = Bv ∨ (0 < l.length ∧ ∃ o, A = some ⟨j, o, none⟩)) l W := fun W hW =>
    valuesRk_parts 8 (by omega) Bv A m c l W (below_cell hW hb hBv) ((hl.belowSize hW).more fun _ _ _ => trivial) hm
  have hA : ∀ j, (j = Bv ∨ (0 < l.length ∧ ∃ o, A = some ⟨j, o, none⟩)) → j < w.heap.size := fun j hj => by
    rcases hj with rfl | ⟨h0, o, ho⟩
    · exact hBv
    · obtain ⟨b, o1, cs, he, hS, _⟩ := hl.elem (List.getElem?_eq_getElem h0)
      rw [ho] at he
      simp only [Option.some.injEq, Addr.mk.injEq] at he
      rw [he.1]; exact hS
  refine (callsIn_wide (n := 9)).1 ?_
  refine callsIn_of_wp_marks Tryz.func104 rfl trivial ?_ rfl
  simp only [Tryz.ntmps104, List.size_toArray, List.length_cons, List.length_nil, Nat.reduceAdd, Nat.reduceSub, Array.replicate_succ, Array.replicate_zero, List.push_toArray, List.append_toArray, List.nil_append, List.cons_append]
  gi_wp2
  obtain ⟨W0, hW0⟩ : ∃ W0, W0 = w.alloc (.cells #[.slice none 0 0] 54) := ⟨_, rfl⟩
  have hB0 : Below w.heap.size w W0 := by rw [hW0]; exact bal (Below.refl _ _) _
  have hz0 : W0.heap.size = w.heap.size + 1 := by rw [hW0]; simp
  have bx0 : Boxed W0 w.heap.size 54 (.slice none 0 0) := by rw [hW0]; exact Boxed.new w _ _
  rw [← hW0]
  clear hW0
  refine range_outer (X := fun j => j = w.heap.size) rfl (by omega) (gf := 92) (lb := #[.pointer (some ⟨Bv, 0, none⟩)]) rfl trivial (enters_of Tryz.func92 (by kernel_rfl) rfl)
    (hseq W0 hB0) (fun _ h => h.elim) rfl (fun j hj => ⟨rfl, by have := hA j hj; omega⟩) (fun k hk => by omega) (fun j hj => by have := hA j hj; omega)
    (fun k W => ∃ v, Boxed W w.heap.size 54 v ∧ Own rRnk W (w.heap.size + 1) 59 v (l.take k) (fun _ => False) ∧ Below w.heap.size w W) (fun _ => False)
    ?hI (fun _ _ h _ => h) ⟨_, bx0, Own.nil_ _ _ _ _ (fun b hb => hb.elim), hB0⟩ ?round ?done (fun _ _ _ h _ => h.elim)
  case hI =>
    rintro k P Q ⟨v, h1, h2, h3⟩ t
    have hnb : ¬ NC (fun _ => False) W0.heap.size P w.heap.size := by
      rintro (e | ⟨_, o, ho, hc⟩)
      · exact e
      · rw [show P.heap[w.heap.size]? = _ from h1] at ho; cases ho; cases hc
    refine ⟨v, t.box h1 hnb, h2.turn t (fun g hg => ?_) (fun b hb => hb.elim), h3.trans (t.below h3.size ?_)⟩
    · obtain ⟨q1, q2⟩ := h2.cells hg
      rintro (e | e)
      · exact e
      · exact q2 e.2
    · rintro k (e | e)
      · exact e.elim
      · omega
  case round =>
    rintro lp r k hk W hlo hlp ⟨v, h1, h2, h3⟩
    have hlW := (Array.getElem?_eq_some_iff.1 hlp).1
    have hlen : (l.take k).length = k := by rw [List.length_take]; omega
    have hkm : k < 1000000 := by have := Hmx.out; omega
    have htk : l.take (k + 1) = l.take k ++ [l[k]] := List.take_succ_eq_append_getElem hk
    have hIk := HI.out l[k] (List.getElem_mem hk)
    generalize l[k] = x at *
    obtain ⟨x1, x2⟩ := x
    simp only at hIk
    unfold encRk
    gi_wp2
    refine ⟨Turn.alloc _ _, fun V tV hrV => ?_⟩
    have hwl : w.heap.size ≠ lp := by omega
    have b1 : Boxed V w.heap.size 54 v := tV.box (h1.alloc _) hwl
    have hW2 : V.heap[W.heap.size]? = some (.cells #[.int .i64 x1, .int .i64 x2] 59 (0, 0)) := tV.at (World.alloc_heap_new _ _) (by show ¬ W.heap.size = lp; omega)
    have c0 : V.cell? ⟨W.heap.size, 0, none⟩ = some (.int .i64 x1) := cell_of_row _ _ 0 _ _ _ hW2
    have c1 : V.cell? ⟨W.heap.size, 1, none⟩ = some (.int .i64 x2) := cell_of_row _ _ 1 _ _ _ hW2
    have cv := b1.cell
    have hnl : ∀ g, v.ownBlock = some g → g ≠ lp := fun g hg e => (h2.cells hg).2 (by rw [e]; exact ⟨_, hlp, rfl⟩)
    have o1 : Own rRnk V (w.heap.size + 1) 59 v (l.take k) (fun _ => False) := (h2.alloc _).turn tV hnl (fun b hb => hb.elim)
    have hVs := tV.size
    simp only [World.size_alloc] at hVs
    have hWs := h3.size
    gi_wp2_with (gi_at_builtin; go_loud (refine wpListIn_push0 (by rfl) _ _ _ (by rfl) elt_rnk Tryz.underlying54 (by rfl) (o1.alloc _) ⟨V.heap.size, 0, none⟩ 1 [.int .i64 x1, .int .i64 x2] (x1, x2) (by rfl) ⟨rfl, hIk.1, hIk.2⟩ (news_of V #[.int .i64 x1, .int .i64 x2] _) (by rw [hlen]; unfold maxLen; omega) (by rw [hlen]; omega) (by simp; omega) ?_))
    intro g cap V2 o2 hgrow hlt2
    have hne2 : some w.heap.size ≠ v.ownBlock := fun e => by have := (o1.lt _ e.symm).1; omega
    have b2 : Boxed V2 w.heap.size 54 v := (b1.alloc _).kept hgrow hne2
    have cv2 := b2.cell
    have fv2 := b2.frozen
    gi_wp2
    have hg1 := o2.lt g rfl
    have tG : Turn (Free (fun j => j = w.heap.size) W0.heap.size V) V V2 := (Turn.alloc V _).trans2 (Turn.grown (X := fun j => v.ownBlock = some j) hgrow (fun j e => e)) fun j hj e => by
      obtain ⟨q1, q2⟩ := o1.cells e
      refine .inr ⟨by omega, ?_⟩
      obtain ⟨o, ho⟩ : ∃ o, V.heap[j]? = some o := ⟨_, Array.getElem?_eq_getElem hj⟩
      refine ⟨o, ho, ?_⟩
      cases hc : o.isCells with
      | true => rfl
      | false => exact absurd ⟨o, ho, hc⟩ q2
    have tS : Turn (fun j => j = w.heap.size) V2 (V2.setCell ⟨w.heap.size, 0, none⟩ (.slice (some ⟨g, 0, none⟩) (k + 1) cap)) := Turn.set (X := fun j => j = w.heap.size) _ (show w.heap.size = w.heap.size from rfl) _
    refine ⟨tG.trans2 tS fun j _ e => .inl e, _, b2.set _, ?_, ?_⟩
    · rw [htk]
      exact o2.turn tS (fun g' hg' e => by simp [Value.ownBlock] at hg'; omega) (fun b hb => hb.elim)
    · refine Below.trans h3 ?_
      have tW : Turn (fun j => w.heap.size ≤ j) W V := (Turn.alloc W _).trans (tV.mono fun j _ e => by show w.heap.size ≤ j; rw [e]; omega)
      have tA : Turn (fun j => w.heap.size ≤ j) V (V2.setCell ⟨w.heap.size, 0, none⟩ (.slice (some ⟨g, 0, none⟩) (k + 1) cap)) := (tG.mono fun j _ e => by
        rcases e with e | e
        · show w.heap.size ≤ j; omega
        · have := e.1; show w.heap.size ≤ j; omega).trans (tS.mono fun j _ e => by show w.heap.size ≤ j; omega)
      exact (tW.trans tA).below hWs fun j hj => hj
  case done =>
    rintro D W hD ⟨v, h1, h2, h3⟩ hK
    rw [List.take_length] at h2
    have cv := h1.cell
    gi_wp2
    refine ⟨by simp, .inl ⟨_, _, rfl, run_takeDeferred hK, ?_⟩⟩
    have hnD : ∀ g, v.ownBlock = some g → ¬ g = D := fun g hg e => (h2.cells hg).2 (by rw [e]; exact ⟨_, hK, rfl⟩)
    have tD : Turn (fun j => j = D) W (W.putObj D (.deferred none)) := Turn.put W (X := fun j => j = D) (show D = D from rfl) _
    exact ⟨_, results_tmp rfl _ _ _, v, rfl, (h2.lower (by omega)).turn tD hnD (fun b hb => hb.elim), h3.trans (tD.below h3.size fun j hj => by omega)⟩
end Go.Proofs.YtghihopmiagcpaaGreatDoor
