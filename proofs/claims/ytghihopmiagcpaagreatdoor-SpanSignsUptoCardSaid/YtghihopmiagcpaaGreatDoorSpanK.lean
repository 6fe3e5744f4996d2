/-
  Runs of ranks put in order and joined: slices.SortedFunc and span.joined, walked.
-/
import Derived.Test.YtghihopmiagcpaaGreatDoorSpanJ
import Derived.Test.YtghihopmiagcpaaGreatDoorSpanH
import Derived.Deep.CutRange
import Derived.Deep.RegionLaw
set_option autoImplicit false
set_option relaxedAutoImplicit false
set_option linter.unusedVariables false
set_option linter.unusedSimpArgs false
namespace Go.Proofs.YtghihopmiagcpaaGreatDoor
open Go.Rows Go.RowKit Go.Shelf Go.Sort

/-- runs that can be put in order by a subtraction -/
abbrev Rb := { x : Rk // (0 ≤ x.1 ∧ x.1 ≤ 1000000000) ∧ I64 x.2 }
instance : Inhabited Rb := ⟨⟨(0, 0), by unfold I64; omega⟩⟩
def encRb (x : Rb) : List Value := [.int .i64 x.1.1, .int .i64 x.1.2]
def cfRb (x y : Rb) : Int := x.1.1 - y.1.1
theorem ltRb (x y : Rb) : ltOf cfRb x y = decide (x.1.1 < y.1.1) := by
  unfold ltOf cfRb
  exact decide_eq_decide.2 (by omega)
theorem swoRb : SWO (ltOf cfRb) where
  irrefl x := by rw [ltRb]; simp
  trans x y z h1 h2 := by rw [ltRb] at *; simp at *; omega
  ntrans x y z h1 h2 := by rw [ltRb] at *; simp at *; omega

set_option maxRecDepth 100000 in
theorem joined1_any (x y : Rb) (W : World) : Calls Tryz.prog 69 #[.agg #[.int .i64 x.1.1, .int .i64 x.1.2], .agg #[.int .i64 y.1.1, .int .i64 y.1.2]] W fun e w' => e = .returned (.int .i64 (cfRb x y)) ∧ ∃ q os', w' = grow (W.drewN q) os' := by
  obtain ⟨⟨x1, x2⟩, hx, _⟩ := x
  obtain ⟨⟨y1, y2⟩, hy, _⟩ := y
  unfold cfRb
  simp only at hx hy ⊢
  have hw : IntKind.i64.wrap (x1 - y1) = x1 - y1 := IntWalk.i64_in _ ⟨by omega, by omega⟩
  clear hx hy
  go_enter Tryz.func69, Tryz.ntmps69
  go_wp2_with fail
  go_ret
  exact ⟨rfl, 0, _, by rw [alloc_eq_grow, alloc_eq_grow, grow_grow]; rfl⟩

theorem sortWorldV_far (w : World) (g o m : Nat) (dk : Array Value) (os : Array Obj) {k : Nat} (hk : k < w.heap.size) (hne : k ≠ g) : (sortWorld id w g o m dk os).heap[k]? = w.heap[k]? := by
  unfold sortWorld
  have hs : (putRow id (Sort.ahead w m) g o dk).heap.size = w.heap.size := size_putRow id (Sort.ahead w m) g o dk
  rw [heap_grow_old _ _ (by rw [hs]; exact hk)]
  unfold putRow mapBlock
  simp only [Array.getElem?_modify]
  rw [if_neg (fun e => hne e.symm)]
  rfl
theorem sortWorldV_grown (w : World) (g o m : Nat) (dk : Array Value) (os : Array Obj) : w.grownBy (sortWorld id w g o m dk os) (some g) := by
  refine ⟨rfl, rfl, rfl, ?_, fun k hk hne => sortWorldV_far w g o m dk os hk (fun e => hne (by rw [e]))⟩
  unfold sortWorld
  rw [size_grow, size_putRow]
  show w.heap.size ≤ w.heap.size + os.size
  omega

/-- an own row's cells hold the runs, one behind the other -/
theorem holds_own {w : World} {base : Nat} {g cap : Nat} {l : List Rb} (h : Own rRnk w base 59 (.slice (some ⟨g, 0, none⟩) l.length cap) (l.map Subtype.val) (fun _ => False)) : HoldsK encRb 2 w g 0 l.toArray := by
  intro t ht
  rw [size_flatK, List.size_toArray] at ht
  have hi : t / 2 < l.length := by omega
  rw [get_flatK _ _ _ _ (by rw [List.size_toArray]; exact ht), getElem!_pos l.toArray (t / 2) (by rw [List.size_toArray]; exact hi)]
  obtain ⟨b, o, cs, he, _, _, ⟨rfl, _⟩, hcell⟩ := h.slv.elem (i := t / 2) (x := l[t / 2].1) (by rw [List.getElem?_map, List.getElem?_eq_getElem hi]; rfl)
  simp only [Option.some.injEq, Addr.mk.injEq] at he
  obtain ⟨rfl, rfl, _⟩ := he
  constructor
  · have h2 : t % 2 = 0 ∨ t % 2 = 1 := by omega
    rcases h2 with h2 | h2
    · have := hcell 0 _ rfl
      simp only [rRnk] at this
      rw [h2, show 0 + t = 0 + t / 2 * 2 + 0 from by omega]
      exact this
    · have := hcell 1 _ rfl
      simp only [rRnk] at this
      rw [h2, show 0 + t = 0 + t / 2 * 2 + 1 from by omega]
      exact this
  · obtain ⟨_, xs, ⟨_, q⟩, _⟩ := h
    rcases q with ⟨q, _⟩ | ⟨g', cap', cur, q, _, hg, _⟩
    · cases q
    · simp only [Value.slice.injEq, Option.some.injEq, Addr.mk.injEq] at q
      obtain ⟨⟨rfl, _⟩, _⟩ := q
      simp [World.frozen?, hg]

/-- runs that are held read as a slice -/
theorem slv_holds {w : World} {g cap : Nat} {l : List Rb} {S : Nat → Prop} (h : HoldsK encRb 2 w g 0 l.toArray) (hS : S g) (hlt : g < w.heap.size) (hc : l.length ≤ cap) (hm : cap ≤ maxLen) (hI : ∀ x ∈ l, I64 x.1.1) : SlV rRnk w S (l.map Subtype.val) (.slice (some ⟨g, 0, none⟩) l.length cap) := by
  refine ⟨some ⟨g, 0, none⟩, cap, by rw [List.length_map], by rw [List.length_map]; exact hc, hm, (fun e => by cases e), fun _ => ⟨g, 0, rfl, hS, hlt, fun i x hx => ?_⟩⟩
  rw [List.getElem?_map] at hx
  obtain ⟨y, hy, rfl⟩ := Option.map_eq_some_iff.1 hx
  obtain ⟨hi, hy⟩ := List.getElem?_eq_some_iff.1 hy
  refine ⟨[.int .i64 y.1.1, .int .i64 y.1.2], ⟨rfl, hI y (by rw [← hy]; exact List.getElem_mem hi), y.2.2⟩, fun j u hu => ?_⟩
  have hj : j < 2 := by have := (List.getElem?_eq_some_iff.1 hu).1; simpa using this
  have := (h.cell (i := i) (c := j) (by rw [List.size_toArray]; exact hi) hj).1
  simp only [rRnk] at this ⊢
  rw [this, getElem!_pos l.toArray i (by rw [List.size_toArray]; exact hi)]
  have hl : l.toArray[i]'(by rw [List.size_toArray]; exact hi) = y := by rw [← hy]; rfl
  rw [hl, ← hu]
  have h2 : j = 0 ∨ j = 1 := by omega
  rcases h2 with rfl | rfl <;> rfl

set_option maxRecDepth 100000 in
theorem sortRk_any (v : Value) (l : List Rk) (w : World) (base : Nat) (hown : Own rRnk w base 59 v l (fun _ => False)) (hb : ∀ x ∈ l, 0 ≤ x.1 ∧ x.1 ≤ 1000000000) (hI : ∀ x ∈ l, I64 x.2) (hm : l.length ≤ 1000000) :
    Calls Tryz.prog 91 #[v, .func (.func 69) #[] #[]] w fun e w' => e = .returned (.tuple #[]) ∧ ∃ l', l'.Perm l ∧ l'.Pairwise (fun x y => x.1 ≤ y.1) ∧ SlV rRnk w' (fun b => base ≤ b) l' v ∧ (base ≤ w.heap.size → Below base w w') := by
  by_cases hne : l = []
  · subst hne
    obtain ⟨A, c, rfl, _, _⟩ := hown.slv.val
    refine (AnyF.slices_SortFunc_none { Tryz.sortRk with } A c (.func (.func 69) #[] #[]) w).mono ?_
    rintro e w' ⟨rfl, rfl⟩
    exact ⟨rfl, [], .refl _, List.Pairwise.nil, hown.slv.more fun b hb _ => by rcases hb with hb | hb; exact hb.elim; exact hb, fun _ => Below.refl _ _⟩
  have hpos : 0 < l.length := List.length_pos_iff.2 hne
  obtain ⟨A, cap, rfl, hcap, hmx⟩ := hown.slv.val
  obtain ⟨g, o, cs, he, _, hlt, _, _⟩ := hown.slv.elem (List.getElem?_eq_getElem hpos)
  have hform : ∃ cap', (Value.slice A l.length cap) = .slice (some ⟨g, 0, none⟩) l.length cap' ∧ base ≤ g := by
    obtain ⟨_, xs, ⟨_, q⟩, _⟩ := hown
    rcases q with ⟨_, q⟩ | ⟨g', cap', cur, q, hbg, _⟩
    · omega
    · simp only [Value.slice.injEq] at q
      rw [he] at q
      simp only [Option.some.injEq, Addr.mk.injEq] at q
      obtain ⟨⟨rfl, rfl, _⟩, _, rfl⟩ := q
      exact ⟨cap, by rw [he], hbg⟩
  obtain ⟨cap', hv, hbg⟩ := hform
  rw [hv] at hown ⊢
  have hcap2 : l.length ≤ cap' ∧ cap' ≤ maxLen := by
    simp only [Value.slice.injEq] at hv
    omega
  let L : List Rb := l.pmap Subtype.mk (fun x hx => ⟨hb x hx, hI x hx⟩)
  have hL : L.map Subtype.val = l := by show (l.pmap Subtype.mk _).map Subtype.val = l; rw [List.map_pmap]; simp
  have hLl : L.length = l.length := by show (l.pmap Subtype.mk _).length = _; rw [List.length_pmap]
  clear_value L
  subst hL
  rw [List.length_map] at hown hcap2 hm ⊢
  have hH := holds_own hown
  have hcon := AnyQ.slices_SortFunc Tryz.sortRk 2 Tryz.isAgg59 Tryz.sizeOf59 encRb (fun _ => rfl) (fun x u hu => by simp [encRb] at hu; rcases hu with rfl | rfl <;> rfl) cfRb swoRb 69 #[] g 0 cap' L.toArray w (enters_of Tryz.func69 (by kernel_rfl) rfl)
    (fun _ _ _ _ x y => joined1_any x y _) hH hlt (by rw [List.size_toArray]; omega)
  rw [List.size_toArray] at hcon
  refine hcon.mono ?_
  rintro e w' ⟨rfl, d', n, os, hp, hs, rfl⟩
  obtain ⟨hp1', _, hp3⟩ := hp
  have hp1 : d'.size = L.length := hp1'.trans (List.size_toArray ..)
  clear hp1'
  have hd : d'.toList.length = L.length := by rw [Array.length_toList, hp1]
  have hperm : d'.toList.Perm L := by
    have h1 : (d'.extract 0 L.length).toList = d'.toList := by rw [← hp1, Array.extract_size]
    have h2 : (L.toArray.extract 0 L.length).toList = L := by
      have := Array.extract_size (xs := L.toArray)
      rw [List.size_toArray] at this
      rw [this]
    rw [h1, h2] at hp3
    exact hp3
  have hH' : HoldsK encRb 2 (sortWorldK encRb 2 w g 0 n d' os) g 0 d'.toList.toArray := by
    rw [Array.toArray_toList]
    exact holdsK_grow encRb 2 _ os g 0 d' (by show g < (putRow id (Sort.ahead w n) g 0 _).heap.size; rw [size_putRow]; exact hlt) (holdsK_putRowK encRb 2 (Sort.ahead w n) g 0 L.toArray d' (holdsK_ahead encRb 2 w n g 0 _ hH) (by rw [hp1, List.size_toArray]))
  have hgr : w.grownBy (sortWorldK encRb 2 w g 0 n d' os) (some g) := sortWorldV_grown w g 0 n (flatK encRb 2 d') os
  refine ⟨rfl, d'.toList.map Subtype.val, hperm.map _, ?_, ?_, fun hbw => (Below.refl _ _).grown hgr hbw (fun k hk => by cases hk; exact hbg)⟩
  · rw [List.pairwise_map]
    refine List.pairwise_iff_getElem.2 fun i j hi hj hij => ?_
    have := hs i j (Nat.zero_le _) hij (by omega)
    rw [ltRb, getElem!_pos d' j (by simpa using hj), getElem!_pos d' i (by simpa using hi)] at this
    simp at this
    simpa using this
  · have := slv_holds (S := fun b => base ≤ b) (cap := cap') hH' hbg (Nat.lt_of_lt_of_le hlt hgr.size) (by rw [hd]; exact hcap2.1) hcap2.2 (fun x _ => by have := x.2.1; unfold I64; omega)
    rw [hd] at this
    exact this

set_option maxRecDepth 100000 in
theorem sortedRk_any (Bv : Nat) (A : Option Addr) (m c : Nat) (l : List Rk) (w : World) (hb : w.cell? ⟨Bv, 0, none⟩ = some (.slice A m c)) (hl : SlV rRnk w (fun b => b < w.heap.size) l (.slice A m c)) (hlo : ∀ x ∈ l, 0 ≤ x.1 ∧ x.1 ≤ 1000000000) (hI : ∀ x ∈ l, I64 x.1 ∧ I64 x.2) (hm : l.length ≤ 1000000) :
    Calls Tryz.prog 67 #[.func (.func 92) #[] #[.pointer (some ⟨Bv, 0, none⟩)], .func (.func 69) #[] #[]] w fun e w' =>
      ∃ v l', e = .returned v ∧ l'.Perm l ∧ l'.Pairwise (fun x y => x.1 ≤ y.1) ∧ SlV rRnk w' (fun b => w.heap.size ≤ b) l' v ∧ Below w.heap.size w w' := by
  have hmx := hl.n_eq
  have Hc : Hid (Calls Tryz.prog 90 #[.func (.func 92) #[] #[.pointer (some ⟨Bv, 0, none⟩)]] w fun e w' => ∃ v, e = .returned v ∧ Own rRnk w' w.heap.size 59 v l (fun _ => False) ∧ Below w.heap.size w w') := by
    have H1 := Lib.hid (appendRk_any Bv A m c l w hb hl hI (by omega))
    clear hb hl hlo hI hm hmx
    unfold Hid
    go_enter Tryz.func90, Tryz.ntmps90
    go_wp2_with fail
    refine H1.out.mono ?_
    rintro e w1 ⟨v, rfl, ho, hb1⟩
    have Ho := Lib.hid ho
    clear ho
    go_wp2_with fail
    go_ret
    exact ⟨v, rfl, Ho.out, hb1⟩
  have Hlo := Lib.hid hlo
  have HI := Lib.hid hI
  clear hb hl hlo hI hmx
  go_enter Tryz.func67, Tryz.ntmps67
  go_wp2_with fail
  refine Hc.out.mono ?_
  rintro e w1 ⟨v, rfl, ho, hb1⟩
  have Hs := Lib.hid (sortRk_any v l w1 w.heap.size ho Hlo.out (fun x hx => (HI.out x hx).2) hm)
  have HB1 := Lib.hid hb1
  clear ho hb1
  go_wp2_with fail
  refine Hs.out.mono ?_
  rintro e w2 ⟨rfl, l', h1, h2, h3, h4⟩
  have H3 := Lib.hid (show l'.Perm l ∧ l'.Pairwise (fun x y => x.1 ≤ y.1) ∧ SlV rRnk w2 (fun b => w.heap.size ≤ b) l' v ∧ Below w.heap.size w w2 from ⟨h1, h2, h3, HB1.out.trans (h4 HB1.out.size)⟩)
  clear h1 h2 h3 h4
  go_wp2_with fail
  go_ret
  exact ⟨v, l', rfl, H3.out⟩
end Go.Proofs.YtghihopmiagcpaaGreatDoor
