/-
  Runs of ranks handed to an iterator, collected, put in order and joined: walked.
  Runs of ranks put in order and joined: slices.SortedFunc and span.joined, walked.
  Runs of ranks joined: span.joined, walked.
-/
import Derived.Test.YtldjldkejjeamaaGreatDoorRange
import Derived.Test.YtldjldkejjeamaaGreatDoorSpanH
import Derived.Test.YtldjldkejjeamaaGreatDoorShelfK
import Derived.Shelf.Abstract
import Derived.Shelf.RegionOpen
import Derived.OwnWalkIn
import Derived.TacticsInMore
import Derived.LoopNIn
import Derived.LoopIn
import Derived.Deep.CutRange
import Derived.Deep.RegionLaw
set_option autoImplicit false
set_option relaxedAutoImplicit false
set_option linter.unusedVariables false
set_option linter.unusedSimpArgs false
namespace Go.Proofs.YtldjldkejjeamaaGreatDoor
open Go.Rows Go.RowKit Go.Shelf Go.Sort

attribute [local go_sem] Oper.semAt_some

def encRk (x : Rk) : Value := .agg #[.int .i64 x.1, .int .i64 x.2]
theorem valuesRk_any (A : Option Addr) (n c : Nat) (w : World) :
    Calls Tryz.prog 132 #[.slice A n c] w fun e w' => e = .returned (.func (.func 163) #[] #[.pointer (some ⟨w.heap.size, 0, none⟩)]) ∧ w' = w.alloc (.cells #[.slice A n c] 126) := by
  go_enter Tryz.func132, Tryz.ntmps132
  go_wp2_with fail
  go_ret
  exact ⟨rfl, rfl⟩

set_option maxHeartbeats 2000000 in
set_option maxRecDepth 100000 in
theorem valuesRk_parts (n : Nat) (hn : 1 ≤ n) (Bv : Nat) (A : Option Addr) (m c : Nat) (l : List Rk) (w : World) (hb : w.cell? ⟨Bv, 0, none⟩ = some (.slice A m c)) (hl : SlV rRnk w (fun _ => True) l (.slice A m c)) (hm : m ≤ 1000000) :
    Parts encRk Fence.wide n Tryz.prog 163 #[.pointer (some ⟨Bv, 0, none⟩)] (fun _ => False) (fun j => j = Bv ∨ (0 < l.length ∧ ∃ o, A = some ⟨j, o, none⟩)) l w := by
  intro lp J Jx W hK hJ hJx hY h0
  have hmx := hl.n_eq
  have Hmx := Lib.hid hmx; clear hmx
  have hbW : W.cell? ⟨Bv, 0, none⟩ = some (.slice A m c) := (World.cell?_of_block (a := ⟨Bv, 0, none⟩) (hK Bv (.inl rfl)).2.1).trans hb
  have HK : Hid (∀ j, (j = Bv ∨ (0 < l.length ∧ ∃ o, A = some ⟨j, o, none⟩)) → W.heap[j]? = w.heap[j]?) := fun j hj => (hK j hj).2.1
  have HY := Lib.hid hY
  have HJ := Lib.hid hJ
  clear hK hY hJ
  refine callsIn_of_wp Tryz.func163 rfl trivial ?_ rfl
  simp only [Tryz.ntmps163, List.size_toArray, List.length_cons, List.length_nil, Nat.reduceAdd, Nat.reduceSub, Array.replicate_succ, Array.replicate_zero, List.push_toArray, List.append_toArray, List.nil_append, List.cons_append]
  gi_wp2
  gi_loopw [7] (fun i wr => ∃ k : Nat, k ≤ m ∧ i = .int .i64 k ∧ Hid (J k wr) ∧ Hid (∀ j, (j = Bv ∨ (0 < l.length ∧ ∃ o, A = some ⟨j, o, none⟩)) → wr.heap[j]? = w.heap[j]?)) (fun i _ => m - (intOf i).toNat)
  case atStart => exact ⟨0, Nat.zero_le _, rfl, h0, HK⟩
  case round =>
    clear h0 HK
    obtain ⟨k, hk, rfl, Hj, HK⟩ := hrel
    by_cases hlt : k < m
    case neg =>
      have hlt' : ¬ (k : Int) < (m : Int) := by omega
      obtain rfl : k = m := by omega
      gi_wp2
      go_end0
      refine ⟨⟨_, rfl⟩, .inl ?_⟩
      rw [← Hmx.out]
      exact Hj.out
    have hkx : k < l.length := by have := Hmx.out; omega
    have hkI : (k : Int) < (m : Int) := by omega
    have hk0 : (0 : Int) ≤ (k : Int) := by omega
    obtain ⟨b1, o1, cs1, rfl, _, hlt1, ⟨rfl, hi1, hi2⟩, hcell1⟩ := hl.elem (List.getElem?_eq_getElem hkx)
    have hkb : wr.heap[b1]? = w.heap[b1]? := HK.out b1 (.inr ⟨by omega, o1, rfl⟩)
    have c0 := (World.cell?_of_block (a := ⟨b1, o1 + k * 2, none⟩) hkb).trans (by have := hcell1 0 _ rfl; simpa [rRnk] using this)
    have c1 := (World.cell?_of_block (a := ⟨b1, o1 + k * 2 + 1, none⟩) hkb).trans (by have := hcell1 1 _ rfl; simpa [rRnk] using this)
    obtain ⟨fn, tmps, assign, body, hy, hR⟩ := HY.out k hkx (wr.alloc (.cells #[.int .i64 l[k].1, .int .i64 l[k].2] 131)) (HJ.out _ _ _ Hj.out (Turn.alloc _ _))
    unfold encRk at hy
    have hkb2 : ∀ j, (j = Bv ∨ (0 < l.length ∧ ∃ o, some (⟨b1, o1, none⟩ : Addr) = some ⟨j, o, none⟩)) → (wr.alloc (.cells #[.int .i64 l[k].1, .int .i64 l[k].2] 131)).heap[j]? = w.heap[j]? := fun j hj => by
      rw [← HK.out j hj]
      refine Below.heap_alloc _ _ _ ?_
      rcases hj with rfl | ⟨_, o, ho⟩
      · have := World.block_lt_of_cell? w _ hb
        have h1 := HK.out j (.inl rfl)
        exact Nat.lt_of_not_le fun hge => by
          rw [Array.getElem?_eq_none hge] at h1
          have := (Array.getElem?_eq_none_iff.1 h1.symm)
          simp at *
          omega
      · simp only [Option.some.injEq, Addr.mk.injEq] at ho
        obtain ⟨rfl, _⟩ := ho
        exact World.block_lt_of_cell? wr _ c0
    have HK2 := Lib.hid hkb2
    clear hcell1 hkb2 hkb
    gi_wp2
    refine hR.mono ?_
    rintro e W3 (⟨rfl, hJ3, hk3⟩ | ⟨rfl, hJx3⟩)
    · gi_wp2
      go_roundw
      case rel => exact ⟨k + 1, by omega, by go_num, hJ3, fun j hj => (hk3 j hj).trans (HK2.out j hj)⟩
      case measure => simp [intOf]; omega
    · gi_wp2
      refine bodyPost_ret (results_none rfl _ _ _) rfl ?_
      exact ⟨⟨_, rfl⟩, .inr hJx3⟩

set_option maxHeartbeats 4000000 in
set_option maxRecDepth 100000 in
theorem appendRk_any (Bv : Nat) (A : Option Addr) (m c : Nat) (l : List Rk) (w : World) (hb : w.cell? ⟨Bv, 0, none⟩ = some (.slice A m c)) (hl : SlV rRnk w (fun b => b < w.heap.size) l (.slice A m c)) (hI : ∀ x ∈ l, I64 x.1 ∧ I64 x.2) (hm : m ≤ 1000000) :
    Calls Tryz.prog 183 #[.slice none 0 0, .func (.func 163) #[] #[.pointer (some ⟨Bv, 0, none⟩)]] w fun e w' =>
      ∃ v, e = .returned v ∧ Own rRnk w' w.heap.size 131 v l (fun _ => False) ∧ Below w.heap.size w w' := by
  have hmx := hl.n_eq
  have Hmx := Lib.hid hmx; clear hmx
  have HI := Lib.hid hI; clear hI
  have hBv := cell_lt hb
  have hseq : ∀ (W : World), Below w.heap.size w W → Parts encRk Fence.wide 8 Tryz.prog 163 #[.pointer (some ⟨Bv, 0, none⟩)] (fun _ => False) (fun j => j = Bv ∨ (0 < l.length ∧ ∃ o, A = some ⟨j, o, none⟩)) l W := fun W hW =>
    valuesRk_parts 8 (by omega) Bv A m c l W (below_cell hW hb hBv) ((hl.belowSize hW).more fun _ _ _ => trivial) hm
  have hA : ∀ j, (j = Bv ∨ (0 < l.length ∧ ∃ o, A = some ⟨j, o, none⟩)) → j < w.heap.size := fun j hj => by
    rcases hj with rfl | ⟨h0, o, ho⟩
    · exact hBv
    · obtain ⟨b, o1, cs, he, hS, _⟩ := hl.elem (List.getElem?_eq_getElem h0)
      rw [ho] at he
      simp only [Option.some.injEq, Addr.mk.injEq] at he
      rw [he.1]; exact hS
  refine (callsIn_wide (n := 9)).1 ?_
  refine callsIn_of_wp_marks Tryz.func183 rfl trivial ?_ rfl
  simp only [Tryz.ntmps183, List.size_toArray, List.length_cons, List.length_nil, Nat.reduceAdd, Nat.reduceSub, Array.replicate_succ, Array.replicate_zero, List.push_toArray, List.append_toArray, List.nil_append, List.cons_append]
  gi_wp2
  obtain ⟨W0, hW0⟩ : ∃ W0, W0 = w.alloc (.cells #[.slice none 0 0] 126) := ⟨_, rfl⟩
  have hB0 : Below w.heap.size w W0 := by rw [hW0]; exact bal (Below.refl _ _) _
  have hz0 : W0.heap.size = w.heap.size + 1 := by rw [hW0]; simp
  have bx0 : Boxed W0 w.heap.size 126 (.slice none 0 0) := by rw [hW0]; exact Boxed.new w _ _
  rw [← hW0]
  clear hW0
  refine range_outer (X := fun j => j = w.heap.size) rfl (by omega) (gf := 163) (lb := #[.pointer (some ⟨Bv, 0, none⟩)]) rfl trivial (enters_of Tryz.func163 (by kernel_rfl) rfl)
    (hseq W0 hB0) (fun _ h => h.elim) rfl (fun j hj => ⟨rfl, by have := hA j hj; omega⟩) (fun k hk => by omega) (fun j hj => by have := hA j hj; omega)
    (fun k W => ∃ v, Boxed W w.heap.size 126 v ∧ Own rRnk W (w.heap.size + 1) 131 v (l.take k) (fun _ => False) ∧ Below w.heap.size w W) (fun _ => False)
    ?hI (fun _ _ h _ => h) ⟨_, bx0, Own.nil_ _ _ _ _ (fun b hb => hb.elim), hB0⟩ ?round ?done (fun _ _ _ h _ => h.elim)
  case hI =>
    rintro k P Q ⟨v, h1, h2, h3⟩ t
    have hnb : ¬ NC (fun _ => False) W0.heap.size P w.heap.size := by
      rintro (e | ⟨_, o, ho, hc⟩)
      · exact e
      · rw [show P.heap[w.heap.size]? = _ from h1] at ho; cases ho; cases hc
    refine ⟨v, t.box h1 hnb, h2.turn t (fun g hg => ?_) (fun b hb => hb.elim), h3.trans (t.below h3.size ?_)⟩
    · obtain ⟨q1, q2⟩ := h2.cells hg
      rintro (e | e)
      · exact e
      · exact q2 e.2
    · rintro k (e | e)
      · exact e.elim
      · omega
  case round =>
    rintro lp r k hk W hlo hlp ⟨v, h1, h2, h3⟩
    have hlW := (Array.getElem?_eq_some_iff.1 hlp).1
    have hlen : (l.take k).length = k := by rw [List.length_take]; omega
    have hkm : k < 1000000 := by have := Hmx.out; omega
    have htk : l.take (k + 1) = l.take k ++ [l[k]] := List.take_succ_eq_append_getElem hk
    have hIk := HI.out l[k] (List.getElem_mem hk)
    generalize l[k] = x at *
    obtain ⟨x1, x2⟩ := x
    simp only at hIk
    unfold encRk
    gi_wp2
    refine ⟨Turn.alloc _ _, fun V tV hrV => ?_⟩
    have hwl : w.heap.size ≠ lp := by omega
    have b1 : Boxed V w.heap.size 126 v := tV.box (h1.alloc _) hwl
    have hW2 : V.heap[W.heap.size]? = some (.cells #[.int .i64 x1, .int .i64 x2] 131 (0, 0)) := tV.at (World.alloc_heap_new _ _) (by show ¬ W.heap.size = lp; omega)
    have c0 : V.cell? ⟨W.heap.size, 0, none⟩ = some (.int .i64 x1) := cell_of_row _ _ 0 _ _ _ hW2
    have c1 : V.cell? ⟨W.heap.size, 1, none⟩ = some (.int .i64 x2) := cell_of_row _ _ 1 _ _ _ hW2
    have cv := b1.cell
    have hnl : ∀ g, v.ownBlock = some g → g ≠ lp := fun g hg e => (h2.cells hg).2 (by rw [e]; exact ⟨_, hlp, rfl⟩)
    have o1 : Own rRnk V (w.heap.size + 1) 131 v (l.take k) (fun _ => False) := (h2.alloc _).turn tV hnl (fun b hb => hb.elim)
    have hVs := tV.size
    simp only [World.size_alloc] at hVs
    have hWs := h3.size
    gi_wp2_with (gi_at_builtin; go_loud (refine wpListIn_push0 (by rfl) _ _ _ (by rfl) elt_rnk Tryz.underlying126 (by rfl) (o1.alloc _) ⟨V.heap.size, 0, none⟩ 1 [.int .i64 x1, .int .i64 x2] (x1, x2) (by rfl) ⟨rfl, hIk.1, hIk.2⟩ (news_of V #[.int .i64 x1, .int .i64 x2] _) (by rw [hlen]; unfold maxLen; omega) (by rw [hlen]; omega) (by simp; omega) ?_))
    intro g cap V2 o2 hgrow hlt2
    have hne2 : some w.heap.size ≠ v.ownBlock := fun e => by have := (o1.lt _ e.symm).1; omega
    have b2 : Boxed V2 w.heap.size 126 v := (b1.alloc _).kept hgrow hne2
    have cv2 := b2.cell
    have fv2 := b2.frozen
    gi_wp2
    have hg1 := o2.lt g rfl
    have tG : Turn (Free (fun j => j = w.heap.size) W0.heap.size V) V V2 := (Turn.alloc V _).trans2 (Turn.grown (X := fun j => v.ownBlock = some j) hgrow (fun j e => e)) fun j hj e => by
      obtain ⟨q1, q2⟩ := o1.cells e
      refine .inr ⟨by omega, ?_⟩
      obtain ⟨o, ho⟩ : ∃ o, V.heap[j]? = some o := ⟨_, Array.getElem?_eq_getElem hj⟩
      refine ⟨o, ho, ?_⟩
      cases hc : o.isCells with
      | true => rfl
      | false => exact absurd ⟨o, ho, hc⟩ q2
    have tS : Turn (fun j => j = w.heap.size) V2 (V2.setCell ⟨w.heap.size, 0, none⟩ (.slice (some ⟨g, 0, none⟩) (k + 1) cap)) := Turn.set (X := fun j => j = w.heap.size) _ (show w.heap.size = w.heap.size from rfl) _
    refine ⟨tG.trans2 tS fun j _ e => .inl e, _, b2.set _, ?_, ?_⟩
    · rw [htk]
      exact o2.turn tS (fun g' hg' e => by simp [Value.ownBlock] at hg'; omega) (fun b hb => hb.elim)
    · refine Below.trans h3 ?_
      have tW : Turn (fun j => w.heap.size ≤ j) W V := (Turn.alloc W _).trans (tV.mono fun j _ e => by show w.heap.size ≤ j; rw [e]; omega)
      have tA : Turn (fun j => w.heap.size ≤ j) V (V2.setCell ⟨w.heap.size, 0, none⟩ (.slice (some ⟨g, 0, none⟩) (k + 1) cap)) := (tG.mono fun j _ e => by
        rcases e with e | e
        · show w.heap.size ≤ j; omega
        · have := e.1; show w.heap.size ≤ j; omega).trans (tS.mono fun j _ e => by show w.heap.size ≤ j; omega)
      exact (tW.trans tA).below hWs fun j hj => hj
  case done =>
    rintro D W hD ⟨v, h1, h2, h3⟩ hK
    rw [List.take_length] at h2
    have cv := h1.cell
    gi_wp2
    refine ⟨by simp, .inl ⟨_, _, rfl, run_takeDeferred hK, ?_⟩⟩
    have hnD : ∀ g, v.ownBlock = some g → ¬ g = D := fun g hg e => (h2.cells hg).2 (by rw [e]; exact ⟨_, hK, rfl⟩)
    have tD : Turn (fun j => j = D) W (W.putObj D (.deferred none)) := Turn.put W (X := fun j => j = D) (show D = D from rfl) _
    exact ⟨_, results_tmp rfl _ _ _, v, rfl, (h2.lower (by omega)).turn tD hnD (fun b hb => hb.elim), h3.trans (tD.below h3.size fun j hj => by omega)⟩
end Go.Proofs.YtldjldkejjeamaaGreatDoor
set_option autoImplicit false
set_option relaxedAutoImplicit false
set_option linter.unusedVariables false
set_option linter.unusedSimpArgs false
namespace Go.Proofs.YtldjldkejjeamaaGreatDoor
open Go.Rows Go.RowKit Go.Shelf Go.Sort

/-- runs that can be put in order by a subtraction -/
abbrev Rb := { x : Rk // (0 ≤ x.1 ∧ x.1 ≤ 1000000000) ∧ I64 x.2 }
instance : Inhabited Rb := ⟨⟨(0, 0), by unfold I64; omega⟩⟩
def encRb (x : Rb) : List Value := [.int .i64 x.1.1, .int .i64 x.1.2]
def cfRb (x y : Rb) : Int := x.1.1 - y.1.1
theorem ltRb (x y : Rb) : ltOf cfRb x y = decide (x.1.1 < y.1.1) := by
  unfold ltOf cfRb
  exact decide_eq_decide.2 (by omega)
theorem swoRb : SWO (ltOf cfRb) where
  irrefl x := by rw [ltRb]; simp
  trans x y z h1 h2 := by rw [ltRb] at *; simp at *; omega
  ntrans x y z h1 h2 := by rw [ltRb] at *; simp at *; omega

set_option maxRecDepth 100000 in
theorem joined1_any (x y : Rb) (W : World) : Calls Tryz.prog 133 #[.agg #[.int .i64 x.1.1, .int .i64 x.1.2], .agg #[.int .i64 y.1.1, .int .i64 y.1.2]] W fun e w' => e = .returned (.int .i64 (cfRb x y)) ∧ ∃ q os', w' = grow (W.drewN q) os' := by
  obtain ⟨⟨x1, x2⟩, hx, _⟩ := x
  obtain ⟨⟨y1, y2⟩, hy, _⟩ := y
  unfold cfRb
  simp only at hx hy ⊢
  have hw : IntKind.i64.wrap (x1 - y1) = x1 - y1 := IntWalk.i64_in _ ⟨by omega, by omega⟩
  clear hx hy
  go_enter Tryz.func133, Tryz.ntmps133
  go_wp2_with fail
  go_ret
  exact ⟨rfl, 0, _, by rw [alloc_eq_grow, alloc_eq_grow, grow_grow]; rfl⟩

theorem sortWorldV_far (w : World) (g o m : Nat) (dk : Array Value) (os : Array Obj) {k : Nat} (hk : k < w.heap.size) (hne : k ≠ g) : (sortWorld id w g o m dk os).heap[k]? = w.heap[k]? := by
  unfold sortWorld
  have hs : (putRow id (Sort.ahead w m) g o dk).heap.size = w.heap.size := size_putRow id (Sort.ahead w m) g o dk
  rw [heap_grow_old _ _ (by rw [hs]; exact hk)]
  unfold putRow mapBlock
  simp only [Array.getElem?_modify]
  rw [if_neg (fun e => hne e.symm)]
  rfl
theorem sortWorldV_grown (w : World) (g o m : Nat) (dk : Array Value) (os : Array Obj) : w.grownBy (sortWorld id w g o m dk os) (some g) := by
  refine ⟨rfl, rfl, rfl, ?_, fun k hk hne => sortWorldV_far w g o m dk os hk (fun e => hne (by rw [e]))⟩
  unfold sortWorld
  rw [size_grow, size_putRow]
  show w.heap.size ≤ w.heap.size + os.size
  omega

/-- an own row's cells hold the runs, one behind the other -/
theorem holds_own {w : World} {base : Nat} {g cap : Nat} {l : List Rb} (h : Own rRnk w base 131 (.slice (some ⟨g, 0, none⟩) l.length cap) (l.map Subtype.val) (fun _ => False)) : HoldsK encRb 2 w g 0 l.toArray := by
  intro t ht
  rw [size_flatK, List.size_toArray] at ht
  have hi : t / 2 < l.length := by omega
  rw [get_flatK _ _ _ _ (by rw [List.size_toArray]; exact ht), getElem!_pos l.toArray (t / 2) (by rw [List.size_toArray]; exact hi)]
  obtain ⟨b, o, cs, he, _, _, ⟨rfl, _⟩, hcell⟩ := h.slv.elem (i := t / 2) (x := l[t / 2].1) (by rw [List.getElem?_map, List.getElem?_eq_getElem hi]; rfl)
  simp only [Option.some.injEq, Addr.mk.injEq] at he
  obtain ⟨rfl, rfl, _⟩ := he
  constructor
  · have h2 : t % 2 = 0 ∨ t % 2 = 1 := by omega
    rcases h2 with h2 | h2
    · have := hcell 0 _ rfl
      simp only [rRnk] at this
      rw [h2, show 0 + t = 0 + t / 2 * 2 + 0 from by omega]
      exact this
    · have := hcell 1 _ rfl
      simp only [rRnk] at this
      rw [h2, show 0 + t = 0 + t / 2 * 2 + 1 from by omega]
      exact this
  · obtain ⟨_, xs, ⟨_, q⟩, _⟩ := h
    rcases q with ⟨q, _⟩ | ⟨g', cap', cur, q, _, hg, _⟩
    · cases q
    · simp only [Value.slice.injEq, Option.some.injEq, Addr.mk.injEq] at q
      obtain ⟨⟨rfl, _⟩, _⟩ := q
      simp [World.frozen?, hg]

/-- runs that are held read as a slice -/
theorem slv_holds {w : World} {g cap : Nat} {l : List Rb} {S : Nat → Prop} (h : HoldsK encRb 2 w g 0 l.toArray) (hS : S g) (hlt : g < w.heap.size) (hc : l.length ≤ cap) (hm : cap ≤ maxLen) (hI : ∀ x ∈ l, I64 x.1.1) : SlV rRnk w S (l.map Subtype.val) (.slice (some ⟨g, 0, none⟩) l.length cap) := by
  refine ⟨some ⟨g, 0, none⟩, cap, by rw [List.length_map], by rw [List.length_map]; exact hc, hm, (fun e => by cases e), fun _ => ⟨g, 0, rfl, hS, hlt, fun i x hx => ?_⟩⟩
  rw [List.getElem?_map] at hx
  obtain ⟨y, hy, rfl⟩ := Option.map_eq_some_iff.1 hx
  obtain ⟨hi, hy⟩ := List.getElem?_eq_some_iff.1 hy
  refine ⟨[.int .i64 y.1.1, .int .i64 y.1.2], ⟨rfl, hI y (by rw [← hy]; exact List.getElem_mem hi), y.2.2⟩, fun j u hu => ?_⟩
  have hj : j < 2 := by have := (List.getElem?_eq_some_iff.1 hu).1; simpa using this
  have := (h.cell (i := i) (c := j) (by rw [List.size_toArray]; exact hi) hj).1
  simp only [rRnk] at this ⊢
  rw [this, getElem!_pos l.toArray i (by rw [List.size_toArray]; exact hi)]
  have hl : l.toArray[i]'(by rw [List.size_toArray]; exact hi) = y := by rw [← hy]; rfl
  rw [hl, ← hu]
  have h2 : j = 0 ∨ j = 1 := by omega
  rcases h2 with rfl | rfl <;> rfl

set_option maxRecDepth 100000 in
theorem sortRk_any (v : Value) (l : List Rk) (w : World) (base : Nat) (hown : Own rRnk w base 131 v l (fun _ => False)) (hb : ∀ x ∈ l, 0 ≤ x.1 ∧ x.1 ≤ 1000000000) (hI : ∀ x ∈ l, I64 x.2) (hm : l.length ≤ 1000000) :
    Calls Tryz.prog 162 #[v, .func (.func 133) #[] #[]] w fun e w' => e = .returned (.tuple #[]) ∧ ∃ l', l'.Perm l ∧ l'.Pairwise (fun x y => x.1 ≤ y.1) ∧ SlV rRnk w' (fun b => base ≤ b) l' v ∧ (base ≤ w.heap.size → Below base w w') := by
  by_cases hne : l = []
  · subst hne
    obtain ⟨A, c, rfl, _, _⟩ := hown.slv.val
    refine (AnyF.slices_SortFunc_none { Tryz.sortRk with } A c (.func (.func 133) #[] #[]) w).mono ?_
    rintro e w' ⟨rfl, rfl⟩
    exact ⟨rfl, [], .refl _, List.Pairwise.nil, hown.slv.more fun b hb _ => by rcases hb with hb | hb; exact hb.elim; exact hb, fun _ => Below.refl _ _⟩
  have hpos : 0 < l.length := List.length_pos_iff.2 hne
  obtain ⟨A, cap, rfl, hcap, hmx⟩ := hown.slv.val
  obtain ⟨g, o, cs, he, _, hlt, _, _⟩ := hown.slv.elem (List.getElem?_eq_getElem hpos)
  have hform : ∃ cap', (Value.slice A l.length cap) = .slice (some ⟨g, 0, none⟩) l.length cap' ∧ base ≤ g := by
    obtain ⟨_, xs, ⟨_, q⟩, _⟩ := hown
    rcases q with ⟨_, q⟩ | ⟨g', cap', cur, q, hbg, _⟩
    · omega
    · simp only [Value.slice.injEq] at q
      rw [he] at q
      simp only [Option.some.injEq, Addr.mk.injEq] at q
      obtain ⟨⟨rfl, rfl, _⟩, _, rfl⟩ := q
      exact ⟨cap, by rw [he], hbg⟩
  obtain ⟨cap', hv, hbg⟩ := hform
  rw [hv] at hown ⊢
  have hcap2 : l.length ≤ cap' ∧ cap' ≤ maxLen := by
    simp only [Value.slice.injEq] at hv
    omega
  let L : List Rb := l.pmap Subtype.mk (fun x hx => ⟨hb x hx, hI x hx⟩)
  have hL : L.map Subtype.val = l := by show (l.pmap Subtype.mk _).map Subtype.val = l; rw [List.map_pmap]; simp
  have hLl : L.length = l.length := by show (l.pmap Subtype.mk _).length = _; rw [List.length_pmap]
  clear_value L
  subst hL
  rw [List.length_map] at hown hcap2 hm ⊢
  have hH := holds_own hown
  have hcon := AnyQ.slices_SortFunc Tryz.sortRk 2 Tryz.isAgg131 Tryz.sizeOf131 encRb (fun _ => rfl) (fun x u hu => by simp [encRb] at hu; rcases hu with rfl | rfl <;> rfl) cfRb swoRb 133 #[] g 0 cap' L.toArray w (enters_of Tryz.func133 (by kernel_rfl) rfl)
    (fun _ _ _ _ x y => joined1_any x y _) hH hlt (by rw [List.size_toArray]; omega)
  rw [List.size_toArray] at hcon
  refine hcon.mono ?_
  rintro e w' ⟨rfl, d', n, os, hp, hs, rfl⟩
  obtain ⟨hp1', _, hp3⟩ := hp
  have hp1 : d'.size = L.length := hp1'.trans (List.size_toArray ..)
  clear hp1'
  have hd : d'.toList.length = L.length := by rw [Array.length_toList, hp1]
  have hperm : d'.toList.Perm L := by
    have h1 : (d'.extract 0 L.length).toList = d'.toList := by rw [← hp1, Array.extract_size]
    have h2 : (L.toArray.extract 0 L.length).toList = L := by
      have := Array.extract_size (xs := L.toArray)
      rw [List.size_toArray] at this
      rw [this]
    rw [h1, h2] at hp3
    exact hp3
  have hH' : HoldsK encRb 2 (sortWorldK encRb 2 w g 0 n d' os) g 0 d'.toList.toArray := by
    rw [Array.toArray_toList]
    exact holdsK_grow encRb 2 _ os g 0 d' (by show g < (putRow id (Sort.ahead w n) g 0 _).heap.size; rw [size_putRow]; exact hlt) (holdsK_putRowK encRb 2 (Sort.ahead w n) g 0 L.toArray d' (holdsK_ahead encRb 2 w n g 0 _ hH) (by rw [hp1, List.size_toArray]))
  have hgr : w.grownBy (sortWorldK encRb 2 w g 0 n d' os) (some g) := sortWorldV_grown w g 0 n (flatK encRb 2 d') os
  refine ⟨rfl, d'.toList.map Subtype.val, hperm.map _, ?_, ?_, fun hbw => (Below.refl _ _).grown hgr hbw (fun k hk => by cases hk; exact hbg)⟩
  · rw [List.pairwise_map]
    refine List.pairwise_iff_getElem.2 fun i j hi hj hij => ?_
    have := hs i j (Nat.zero_le _) hij (by omega)
    rw [ltRb, getElem!_pos d' j (by simpa using hj), getElem!_pos d' i (by simpa using hi)] at this
    simp at this
    simpa using this
  · have := slv_holds (S := fun b => base ≤ b) (cap := cap') hH' hbg (Nat.lt_of_lt_of_le hlt hgr.size) (by rw [hd]; exact hcap2.1) hcap2.2 (fun x _ => by have := x.2.1; unfold I64; omega)
    rw [hd] at this
    exact this

set_option maxRecDepth 100000 in
theorem sortedRk_any (Bv : Nat) (A : Option Addr) (m c : Nat) (l : List Rk) (w : World) (hb : w.cell? ⟨Bv, 0, none⟩ = some (.slice A m c)) (hl : SlV rRnk w (fun b => b < w.heap.size) l (.slice A m c)) (hlo : ∀ x ∈ l, 0 ≤ x.1 ∧ x.1 ≤ 1000000000) (hI : ∀ x ∈ l, I64 x.1 ∧ I64 x.2) (hm : l.length ≤ 1000000) :
    Calls Tryz.prog 131 #[.func (.func 163) #[] #[.pointer (some ⟨Bv, 0, none⟩)], .func (.func 133) #[] #[]] w fun e w' =>
      ∃ v l', e = .returned v ∧ l'.Perm l ∧ l'.Pairwise (fun x y => x.1 ≤ y.1) ∧ SlV rRnk w' (fun b => w.heap.size ≤ b) l' v ∧ Below w.heap.size w w' := by
  have hmx := hl.n_eq
  have Hc : Hid (Calls Tryz.prog 161 #[.func (.func 163) #[] #[.pointer (some ⟨Bv, 0, none⟩)]] w fun e w' => ∃ v, e = .returned v ∧ Own rRnk w' w.heap.size 131 v l (fun _ => False) ∧ Below w.heap.size w w') := by
    have H1 := Lib.hid (appendRk_any Bv A m c l w hb hl hI (by omega))
    clear hb hl hlo hI hm hmx
    unfold Hid
    go_enter Tryz.func161, Tryz.ntmps161
    go_wp2_with fail
    refine H1.out.mono ?_
    rintro e w1 ⟨v, rfl, ho, hb1⟩
    have Ho := Lib.hid ho
    clear ho
    go_wp2_with fail
    go_ret
    exact ⟨v, rfl, Ho.out, hb1⟩
  have Hlo := Lib.hid hlo
  have HI := Lib.hid hI
  clear hb hl hlo hI hmx
  go_enter Tryz.func131, Tryz.ntmps131
  go_wp2_with fail
  refine Hc.out.mono ?_
  rintro e w1 ⟨v, rfl, ho, hb1⟩
  have Hs := Lib.hid (sortRk_any v l w1 w.heap.size ho Hlo.out (fun x hx => (HI.out x hx).2) hm)
  have HB1 := Lib.hid hb1
  clear ho hb1
  go_wp2_with fail
  refine Hs.out.mono ?_
  rintro e w2 ⟨rfl, l', h1, h2, h3, h4⟩
  have H3 := Lib.hid (show l'.Perm l ∧ l'.Pairwise (fun x y => x.1 ≤ y.1) ∧ SlV rRnk w2 (fun b => w.heap.size ≤ b) l' v ∧ Below w.heap.size w w2 from ⟨h1, h2, h3, HB1.out.trans (h4 HB1.out.size)⟩)
  clear h1 h2 h3 h4
  go_wp2_with fail
  go_ret
  exact ⟨v, l', rfl, H3.out⟩
end Go.Proofs.YtldjldkejjeamaaGreatDoor
set_option autoImplicit false
set_option relaxedAutoImplicit false
set_option linter.unusedVariables false
set_option linter.unusedSimpArgs false
namespace Go.Proofs.YtldjldkejjeamaaGreatDoor
open Go.Rows Go.RowKit Go.Shelf Go.Sort

theorem nrm_mem : ∀ {l : List Rk} {a : Int} {x : Rk}, Nrm a l → x ∈ l → a ≤ x.1 ∧ x.1 ≤ x.2 := by
  intro l
  induction l with
  | nil => intro a x _ h; simp at h
  | cons y l ih =>
    intro a x h hx
    obtain ⟨h1, h2, h3⟩ := h
    rcases List.mem_cons.1 hx with rfl | hx
    · exact ⟨h1, h2⟩
    · have := ih h3 hx; omega
theorem In0.take {l : List Rk} (h : In0 l) (k : Nat) : In0 (l.take k) := fun x hx => h x (List.mem_of_mem_take hx)
theorem mergeL_in {l : List Rk} (h : In0 l) (hs : l.Pairwise (fun x y => x.1 ≤ y.1)) : In0 (mergeL l) := fun x hx => by
  obtain ⟨h1, h2, _⟩ := mergeL_has l (fun y hy => ⟨(h y hy).1, (h y hy).2.1⟩) hs
  obtain ⟨q1, q2⟩ := nrm_mem h1 hx
  obtain ⟨y, hy, _, hy2⟩ := (h2 x.2).1 ⟨x, hx, q2, Int.le_refl _⟩
  have := h y hy
  omega
theorem mergeS_len (out : List Rk) (x : Rk) : (mergeS out x).length ≤ out.length + 1 := by
  rcases list_snoc out with rfl | ⟨i, y, rfl⟩
  · simp [mergeS_nil]
  · rw [mergeS_snoc]; split <;> simp
theorem mergeL_take {l : List Rk} {k : Nat} (h : k < l.length) : mergeL (l.take (k + 1)) = mergeS (mergeL (l.take k)) l[k] := by
  rw [List.take_succ_eq_append_getElem h, mergeL_snoc]
theorem mergeL_len (l : List Rk) : ∀ k, k ≤ l.length → (mergeL (l.take k)).length ≤ k := by
  intro k
  induction k with
  | zero => intro _; simp [mergeL]
  | succ k ih =>
    intro h
    rw [mergeL_take (by omega)]
    have := ih (by omega)
    have := mergeS_len (mergeL (l.take k)) (l[k]'(by omega))
    omega
theorem perm_has {l m : List Rk} (h : l.Perm m) (n : Int) : Has l n ↔ Has m n := ⟨fun ⟨x, hx, q⟩ => ⟨x, h.mem_iff.1 hx, q⟩, fun ⟨x, hx, q⟩ => ⟨x, h.mem_iff.2 hx, q⟩⟩

/-- the last run's end is written over -/
theorem own_set_last {w : World} {base : Nat} {e : TypeId} {g n cap : Nat} {l : List Rk} {y : Rk} (h : Own rRnk w base e (.slice (some ⟨g, 0, none⟩) (n + 1) cap) (l ++ [y]) (fun _ => False)) (hl : l.length = n) {z : Int} (hz : I64 z) :
    Own rRnk (w.setCell ⟨g, n * 2 + 1, none⟩ (.int .i64 z)) base e (.slice (some ⟨g, 0, none⟩) (n + 1) cap) (l ++ [(y.1, z)]) (fun _ => False) := by
  obtain ⟨_, xs, ⟨q0, q⟩, hE⟩ := h
  have key : ∀ {l : List Rk} {xs : List Value}, Elems rRnk w (fun _ => False) (l ++ [y]) xs → ∃ ys, xs = ys ++ [.int .i64 y.1, .int .i64 y.2] ∧ Elems rRnk w (fun _ => False) l ys ∧ I64 y.1 := by
    intro l
    induction l with
    | nil =>
      intro xs hx
      obtain ⟨cs, rest, h1, ⟨rfl, hi, _⟩, h3⟩ := hx
      rw [show rest = [] from h3, List.append_nil] at h1
      exact ⟨[], h1, rfl, hi⟩
    | cons x l ih =>
      intro xs hx
      obtain ⟨cs, rest, h1, h2, h3⟩ := hx
      obtain ⟨ys, rfl, h4, h5⟩ := ih h3
      exact ⟨cs ++ ys, by rw [h1, List.append_assoc], ⟨cs, ys, rfl, h2, h4⟩, h5⟩
  obtain ⟨ys, rfl, hEl, hy1⟩ := key hE
  have hyl : ys.length = n * 2 := by have := hEl.length; rw [hl] at this; exact this
  refine ⟨fun b hb => hb.elim, ys ++ [.int .i64 y.1, .int .i64 z], ⟨by simpa using q0, ?_⟩, Elems.append (Elems.one_ (r := rRnk) (x := (y.1, z)) (cs := [.int .i64 y.1, .int .i64 z]) ⟨rfl, hy1, hz⟩) (hEl.mono fun b hb _ => hb.elim)⟩
  rcases q with ⟨q, _⟩ | ⟨g', cap', cur, q, hbg, hg, hnc, hcm, hcs, htk⟩
  · cases q
  · simp only [Value.slice.injEq, Option.some.injEq, Addr.mk.injEq] at q
    obtain ⟨⟨rfl, _⟩, _, rfl⟩ := q
    refine .inr ⟨g, cap, cur.setIfInBounds (n * 2 + 1) (.int .i64 z), by rw [List.length_append, hl]; rfl, hbg, heap_set1 hg _, by simpa using hnc, hcm, by rw [Array.size_setIfInBounds]; exact hcs, ?_⟩
    have e1 : (l ++ [(y.1, z)]).length * rRnk.size = (l ++ [y]).length * rRnk.size := by simp
    rw [e1, Array.toList_setIfInBounds, List.take_set, htk, List.set_append_right _ _ (by omega), hyl, show n * 2 + 1 - n * 2 = 1 from by omega]
    rfl

set_option maxHeartbeats 4000000 in
set_option maxRecDepth 100000 in
theorem joined_any (A : Option Addr) (n c : Nat) (l : List Rk) (w : World) (hl : SlV rRnk w (fun b => b < w.heap.size) l (.slice A n c)) (hin : In0 l) (hm : l.length ≤ 1000000) :
    Calls Tryz.prog 106 #[.slice A n c] w fun e w' => ∃ v, e = .returned v ∧ SlV rRnk w' (fun b => w.heap.size ≤ b) (canon (Has l)) v ∧ Below w.heap.size w w' := by
  have Hv := Lib.hid (valuesRk_any A n c w)
  have Hs : Hid (∀ W, W = w.alloc (.cells #[.slice A n c] 126) → Calls Tryz.prog 131 #[.func (.func 163) #[] #[.pointer (some ⟨w.heap.size, 0, none⟩)], .func (.func 133) #[] #[]] W fun e w' =>
      ∃ v l', e = .returned v ∧ l'.Perm l ∧ l'.Pairwise (fun x y => x.1 ≤ y.1) ∧ SlV rRnk w' (fun b => W.heap.size ≤ b) l' v ∧ Below W.heap.size W w') := fun W hW => by
    refine sortedRk_any w.heap.size A n c l W (by rw [hW]; simp [go_sem]) (by rw [hW]; exact (hl.alloc _).more fun b hb _ => by have : b < w.heap.size := hb; simp; omega) (fun x hx => ?_) (fun x hx => ?_) hm
    · have := hin x hx; unfold lastR at this; omega
    · have := hin x hx; unfold I64; unfold lastR at this; omega
  have Hin := Lib.hid hin
  have Hm := Lib.hid hm
  clear hl hin hm
  go_enter Tryz.func106, Tryz.ntmps106
  go_wp2_with fail
  refine Hv.out.mono ?_
  rintro e w0 ⟨rfl, hw0⟩
  have HB0 : Hid (Below w.heap.size w w0) := by unfold Hid; rw [hw0]; exact bal (Below.refl _ _) _
  have Hs0 := Lib.hid (Hs.out w0 hw0)
  clear hw0 Hs Hv
  go_wp2_with fail
  refine Hs0.out.mono ?_
  rintro e w1 ⟨v, l', rfl, hp, hso, hv, hb1⟩
  have HB1 := Lib.hid (bot HB0.out hb1)
  have HB01 := Lib.hid HB0.out.size
  have Hin' : Hid (In0 l') := fun x hx => Hin.out x (hp.mem_iff.1 hx)
  have Hso := Lib.hid hso
  have Hmm : Hid (l'.length ≤ 1000000) := by unfold Hid; rw [hp.length_eq]; exact Hm.out
  have Hres : Hid (mergeL l' = canon (Has l)) := by
    obtain ⟨h1, h2, _⟩ := mergeL_has l' (fun y hy => ⟨(Hin'.out y hy).1, (Hin'.out y hy).2.1⟩) hso
    exact (canon_is h1 fun n => (h2 n).trans (perm_has hp n)).symm
  obtain ⟨A1, c1, rfl, _, hc1m⟩ := hv.val
  have HV := Lib.hid (hv.more (S' := fun b => b < w1.heap.size) fun b _ h => h)
  have Hll : Hid (l'.length = l'.length) := rfl
  clear Hs0 hb1 hv hp hso HB0 Hin Hm
  obtain ⟨m, hmz⟩ : ∃ m, m = l'.length := ⟨_, rfl⟩
  rw [← hmz] at HV Hmm
  rw [← hmz]
  have Hmz := Lib.hid hmz
  have hm63 := Hmm.out
  clear hmz Hll
  go_wp2_with fail
  go_loopw [3, 12] (fun v i wr => ∃ k : Nat, k ≤ m ∧ i = .int .i64 k ∧ Hid (Own rRnk wr w1.heap.size 131 v (mergeL (l'.take k)) (fun _ => False)) ∧ Hid (Below w1.heap.size w1 wr)) (fun _ i _ => m - (intOf i).toNat)
  case atStart => exact ⟨0, Nat.zero_le _, rfl, Own.nil_ _ _ _ _ (fun b hb => hb.elim), Below.refl _ _⟩
  case round =>
    obtain ⟨k, hk, rfl, Hown, HB⟩ := hrel
    by_cases hlt : k < m
    case neg =>
      have hlt' : ¬ (k : Int) < (m : Int) := by omega
      have Hsl := Lib.hid Hown.out.slv
      rw [List.take_of_length_le (by have := Hmz.out; omega), Hres.out] at Hsl
      go_wp2_with fail
      go_ret
      exact ⟨_, rfl, Hsl.out.more (fun b hb _ => by rcases hb with h | h; exact h.elim; exact Nat.le_trans HB1.out.size h), HB1.out.trans (HB.out.mono HB1.out.size)⟩
    have hkx : k < l'.length := by have := Hmz.out; omega
    have hkI : (k : Int) < (m : Int) := by omega
    have hk0 : (0 : Int) ≤ (k : Int) := by omega
    obtain ⟨b1, o1, cs1, rfl, hs1, _, ⟨rfl, hi1, hi2⟩, hcell1⟩ := HV.out.elem (List.getElem?_eq_getElem hkx)
    have c0 := below_cell HB.out (hcell1 0 _ rfl) hs1
    have c1 := below_cell HB.out (hcell1 1 _ rfl) hs1
    simp only [rRnk, Nat.add_zero] at c0 c1
    have Htk := Lib.hid (mergeL_take hkx)
    have hlen := mergeL_len l' k (by omega)
    have Hmin := Lib.hid (mergeL_in (Hin'.out.take k) (List.Pairwise.sublist (List.take_sublist _ _) Hso.out))
    obtain ⟨r1, r2, r3⟩ := Hin'.out l'[k] (List.getElem_mem hkx)
    clear hcell1
    generalize l'[k] = x at *
    obtain ⟨x1, x2⟩ := x
    simp only at c0 c1 hi1 hi2 r1 r2 r3 Htk
    have hbw := HB.out.size
    obtain ⟨w5, hw5⟩ : ∃ w5, w5 = wr.alloc (.cells #[.int .i64 x1, .int .i64 x2] 131) := ⟨_, rfl⟩
    have HO1 := Lib.hid (Hown.out.alloc (.cells #[.int .i64 x1, .int .i64 x2] 131))
    rw [← hw5] at HO1
    have HBa : Hid (Below w1.heap.size w1 w5) := by rw [hw5]; exact bal HB.out _
    have d0 : w5.cell? ⟨wr.heap.size, 0, none⟩ = some (.int .i64 x1) := by rw [hw5]; simp [go_sem]
    have d1 : w5.cell? ⟨wr.heap.size, 1, none⟩ = some (.int .i64 x2) := by rw [hw5]; simp [go_sem]
    have hz5 : w5.heap.size = wr.heap.size + 1 := by rw [hw5]; simp
    rcases list_snoc (mergeL (l'.take k)) with hnil | ⟨I, y, hsn⟩
    · rw [hnil, mergeS_nil] at Htk
      rw [hnil] at HO1
      obtain ⟨A2, c2, hve, _, _⟩ := HO1.out.slv.val
      simp only [List.length_nil] at hve
      subst hve
      have hw1 : IntKind.i64.wrap ((0 : Int) - 1) = -1 := rfl
      clear hnil Hown hlen Hmin
      go_wp2_with fail
      rw [← hw5]
      clear hw5 c0 c1
      have r_d0 := cell_regrown d0
      have r_d1 := cell_regrown d1
      go_wp2_with fail
      refine wp_region_qb (by kernel_rfl) (by kernel_rfl) ?_
      repeat (go_big_quiet_step (first | fail))
      refine wpQuiet_nil ?_
      intro w6 B6
      focus
        have HO6 := Lib.hid (HO1.out.keep B6)
        have HB6 : Hid (Below w1.heap.size w1 w6) := bot HBa.out B6
        have e0 := below_cell B6 d0 (cell_lt d0)
        have e1 := below_cell B6 d1 (cell_lt d1)
        have hz6 := HB6.out.size
        clear d0 d1 r_d0 r_d1 B6 HO1 HBa
        go_wp2_with (at_builtin; refine wpList_push (by rfl) _ _ _ (by rfl) elt_rnk Tryz.underlying126 (by rfl) (HO6.out.alloc _) ⟨w6.heap.size, 0, none⟩ 1 [.int .i64 x1, .int .i64 x2] (x1, x2) (by rfl) ⟨rfl, hi1, hi2⟩ (news_of w6 #[.int .i64 x1, .int .i64 x2] _) (by simp [maxLen]) (by simp) (by simp; omega) (w6.heap.size + 1) (by simp) ?_)
        intro g cap w7 hown7 hgrow hat hg7
        have HB7 : Hid (Below w1.heap.size w1 w7) := bgrown (bal HB6.out _) hgrow (HO6.out.alloc _) (Nat.le_refl _)
        have HO7 : Hid (Own rRnk w7 w1.heap.size 131 (.slice (some ⟨g, 0, none⟩) 1 cap) (mergeL (l'.take (k + 1))) (fun _ => False)) := by unfold Hid; rw [Htk.out]; exact hown7
        clear hown7 hgrow hat hg7
        go_wp2_with fail
        go_roundw
        case rel => exact ⟨k + 1, by omega, by go_num, HO7, HB7⟩
        case measure => simp [intOf]; omega
    · rw [hsn, mergeS_snoc] at Htk
      rw [hsn] at HO1 hlen Hmin
      rw [List.length_append, List.length_singleton] at hlen
      obtain ⟨y1, y2⟩ := y
      simp only at Htk
      obtain ⟨s1, s2, s3⟩ := Hmin.out (y1, y2) (by simp)
      simp only at s1 s2 s3
      unfold lastR at s3 r3
      obtain ⟨A2, c2, hve, _, _⟩ := HO1.out.slv.val
      obtain ⟨q, hq⟩ : ∃ q, q = I.length := ⟨_, rfl⟩
      rw [List.length_append, List.length_singleton, ← hq] at hve
      rw [← hq] at hlen
      rw [hve] at HO1
      obtain ⟨g, hgv⟩ : ∃ g, A2 = some (⟨g, 0, none⟩ : Addr) := by
        obtain ⟨_, xs, ⟨_, qq⟩, _⟩ := HO1.out
        rcases qq with ⟨e, _⟩ | ⟨g', cap', cur, e, _⟩
        · cases e
        · simp only [Value.slice.injEq] at e
          exact ⟨g', e.1⟩
      subst hgv
      subst hve
      have hxq : (I ++ [(y1, y2)])[q]? = some (y1, y2) := by rw [hq, List.getElem?_append_right (Nat.le_refl _), Nat.sub_self]; rfl
      obtain ⟨gb, go, gcs, hge, hgS, _, ⟨rfl, _⟩, hgc⟩ := HO1.out.slv.elem hxq
      clear hxq
      simp only [Option.some.injEq, Addr.mk.injEq] at hge
      obtain ⟨rfl, rfl, _⟩ := hge
      have hgb : w1.heap.size ≤ g := by rcases hgS with e | e; exact e.elim; exact e
      have hne5 : g ≠ wr.heap.size := fun e => by have := (Hown.out.lt g rfl).2; omega
      have f1 := hgc 1 _ rfl
      simp only [rRnk, Nat.zero_add] at f1
      clear hgc hgS Hown hsn Hmin
      obtain ⟨ql, hql⟩ : ∃ ql, ql = q + 1 := ⟨_, rfl⟩
      rw [← hql] at HO1 hlen
      rw [← hql]
      have hw1 : IntKind.i64.wrap ((ql : Int) - 1) = (q : Int) := by rw [IntWalk.i64_in _ ⟨by omega, by omega⟩]; omega
      have hw2 : IntKind.i64.wrap (y2 + 1) = y2 + 1 := IntWalk.i64_in _ ⟨by omega, by omega⟩
      have hqI : (q : Int) < (ql : Int) := by omega
      have hq0 : (0 : Int) ≤ (q : Int) := by omega
      have Hq := Lib.hid hq
      have Hql := Lib.hid hql
      clear hq hql
      go_wp2_with fail
      rw [← hw5]
      clear hw5 c0 c1
      have r_d0 := cell_regrown d0
      have r_d1 := cell_regrown d1
      have r_f1 := cell_regrown f1
      go_wp2_with fail
      refine wp_region_qb (by kernel_rfl) (by kernel_rfl) ?_
      repeat (go_big_quiet_step (first | fail))
      refine wpQuiet_nil ?_
      intro w6 B6
      focus
        have HO6 := Lib.hid (HO1.out.keep B6)
        have HB6 : Hid (Below w1.heap.size w1 w6) := bot HBa.out B6
        have e0 := below_cell B6 d0 (cell_lt d0)
        have e1 := below_cell B6 d1 (cell_lt d1)
        have g1 := below_cell B6 f1 (cell_lt f1)
        have hz6 := HB6.out.size
        clear d0 d1 f1 r_d0 r_d1 r_f1 B6 HO1 HBa
        by_cases hle : x1 ≤ y2 + 1
        · rw [if_pos hle] at Htk
          have hmxy := mx_max y2 x2
          have HIm : Hid (I64 (max y2 x2)) := by unfold Hid I64 at *; omega
          have HS : Hid (∀ W, W.heap[g]? = w6.heap[g]? → Own rRnk W w1.heap.size 131 (.slice (some ⟨g, 0, none⟩) ql c2) (I ++ [(y1, y2)]) (fun _ => False) → Own rRnk (W.setCell ⟨g, q * 2 + 1, none⟩ (.int .i64 (max y2 x2))) w1.heap.size 131 (.slice (some ⟨g, 0, none⟩) ql c2) (mergeL (l'.take (k + 1))) (fun _ => False)) := fun W _ ho => by
            rw [Htk.out]
            rw [Hql.out] at ho ⊢
            exact own_set_last ho Hq.out.symm HIm.out
          have fg : w6.frozen? ⟨g, q * 2 + 1, none⟩ = false := by
            obtain ⟨_, xs, ⟨_, qq⟩, _⟩ := HO6.out
            rcases qq with ⟨e, _⟩ | ⟨g', cap', cur, e, _, hg', _⟩
            · cases e
            · simp only [Value.slice.injEq, Option.some.injEq, Addr.mk.injEq] at e
              obtain ⟨⟨rfl, _⟩, _⟩ := e
              simp [World.frozen?, hg']
          go_wp2_with fail
          go_region_law (fail)
          all_goals
            have HO7 := Lib.hid (HS.out w6.drew rfl HO6.out.drew)
            have HB7 : Hid (Below w1.heap.size w1 (w6.drew.setCell ⟨g, q * 2 + 1, none⟩ (.int .i64 (max y2 x2)))) := (HB6.out.trans (Below.refl _ _).drew).setCell (p := ⟨g, q * 2 + 1, none⟩) hgb _
            clear e0 e1 g1 fg HS HO6 HB6
            go_wp2_with fail
            go_roundw
            case rel => exact ⟨k + 1, by omega, by go_num, HO7, HB7⟩
            case measure => simp [intOf]; omega
        · rw [if_neg hle] at Htk
          obtain ⟨OL, hOL⟩ : ∃ OL, OL = I ++ [(y1, y2)] := ⟨_, rfl⟩
          have hol : OL.length = ql := by rw [hOL, List.length_append, List.length_singleton, ← Hq.out, Hql.out]
          rw [← hOL] at Htk HO6
          have Hol := Lib.hid hol
          clear hol hOL
          go_wp2_with (at_builtin; refine wpList_push (by rfl) _ _ _ (by rfl) elt_rnk Tryz.underlying126 (by rfl) (HO6.out.alloc _) ⟨w6.heap.size, 0, none⟩ 1 [.int .i64 x1, .int .i64 x2] (x1, x2) (by rfl) ⟨rfl, hi1, hi2⟩ (news_of w6 #[.int .i64 x1, .int .i64 x2] _) (by rw [Hol.out]; unfold maxLen; omega) (by rw [Hol.out]; omega) (by simp; omega) (w6.heap.size + 1) (by simp) ?_)
          intro g7 cap w7 hown7 hgrow hat hg7
          have HB7 : Hid (Below w1.heap.size w1 w7) := bgrown (bal HB6.out _) hgrow (HO6.out.alloc _) (Nat.le_refl _)
          have HO7 := Lib.hid hown7
          rw [← Htk.out] at HO7
          clear hown7 hgrow hat hg7
          go_wp2_with fail
          go_roundw
          case rel => exact ⟨k + 1, by omega, by go_num, HO7, HB7⟩
          case measure => simp [intOf]; omega
end Go.Proofs.YtldjldkejjeamaaGreatDoor
