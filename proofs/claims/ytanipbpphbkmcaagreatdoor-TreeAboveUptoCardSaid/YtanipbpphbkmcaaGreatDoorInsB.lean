/-
  A row of places sorted by slices.SortFunc under tree.Inside's order.
-/
import Derived.Test.YtanipbpphbkmcaaGreatDoorInsA
import Derived.Test.YtanipbpphbkmcaaGreatDoorIRow
set_option autoImplicit false
set_option relaxedAutoImplicit false
set_option linter.unusedVariables false
set_option linter.unusedSimpArgs false
namespace Go.Proofs.YtanipbpphbkmcaaGreatDoor
open Go.Rows Go.RowKit Go.Shelf Go.Sort

theorem sortWorld_far {α : Type} [Inhabited α] (enc : α → Value) (w : World) (g o m : Nat) (dk : Array α) (os : Array Obj) {k : Nat} (hk : k < w.heap.size) (hne : k ≠ g) : (sortWorld enc w g o m dk os).heap[k]? = w.heap[k]? := by
  unfold sortWorld
  have hs : (putRow enc (Sort.ahead w m) g o dk).heap.size = w.heap.size := size_putRow enc (Sort.ahead w m) g o dk
  rw [heap_grow_old _ _ (by rw [hs]; exact hk)]
  unfold putRow mapBlock
  simp only [Array.getElem?_modify]
  rw [if_neg (fun e => hne e.symm)]
  rfl
theorem sortWorld_grown {α : Type} [Inhabited α] (enc : α → Value) (w : World) (g o m : Nat) (dk : Array α) (os : Array Obj) : w.grownBy (sortWorld enc w g o m dk os) (some g) := by
  refine ⟨rfl, rfl, rfl, ?_, fun k hk hne => sortWorld_far enc w g o m dk os hk (fun e => hne (by rw [e]))⟩
  unfold sortWorld
  rw [size_grow, size_putRow]
  show w.heap.size ≤ w.heap.size + os.size
  omega
/-- the last name of a directory's path -/
def nmL (xs : List Dir) (i : Nat) : List UInt8 := match xs[i]? with | some d => (lastN d.path).data.toList | none => []
theorem nmL_at {xs : List Dir} {i : Nat} (h : i < xs.length) : nmL xs i = (lastN xs[i].path).data.toList := by unfold nmL; rw [List.getElem?_eq_getElem h]
def castL (l : List Nat) : List Int := l.map fun (r : Nat) => (r : Int)
theorem castL_get {l : List Nat} {j x : Nat} (h : l[j]? = some x) : (castL l)[j]? = some (x : Int) := by unfold castL; rw [List.getElem?_map, h]; rfl

set_option maxHeartbeats 800000 in
theorem sortIns_any (xs : List Dir) (h n c b0 hB b9 b o hc : Nat) (hA : Option Addr) (w0 w : World) (base g cap : Nat) (F R : List Nat) (hx : SlV rDir w0 (fun b => b < w0.heap.size) xs (.slice (some ⟨b, o, none⟩) n c)) (hw : Below w0.heap.size w0 w) (hbase : w0.heap.size ≤ base)
    (c0 : w.cell? ⟨b0, 0, none⟩ = some (.slice (some ⟨b, o, none⟩) n c)) (c1 : w.cell? ⟨hB, 0, none⟩ = some (.slice hA h hc)) (c2 : w.cell? ⟨b9, 0, none⟩ = some (.func (.func 58) #[] #[.pointer (some ⟨b0, 0, none⟩), .pointer (some ⟨hB, 0, none⟩)]))
    (n0 : b0 ≠ g) (n1 : hB ≠ g) (n9 : b9 ≠ g) (hF : ∀ x ∈ F, ∃ hx : x < xs.length, xs[x].path.length = h + 1) (hF0 : 0 < F.length) (hrow : IRow w base g 0 cap (castL F)) (hR : R.Perm F) (hRs : R.Pairwise fun x y => ltN (nmL xs) x y = true) (hh : h ≤ 9223372036854775807) (hx63 : xs.length ≤ 9223372036854775807) (hF63 : F.length < 4611686018427387904) :
    Calls Tryz.prog 59 #[.slice (some ⟨g, 0, none⟩) F.length cap, .func (.func 60) #[] #[.pointer (some ⟨b9, 0, none⟩)]] w fun e w' =>
      e = .returned (.tuple #[]) ∧ SlV rInt w' (fun b => base ≤ b) (castL R) (.slice (some ⟨g, 0, none⟩) F.length cap) ∧ w.grownBy w' (some g) := by
  let α := {x : Nat // ∃ hx : x < xs.length, xs[x].path.length = h + 1}
  have hinh : Inhabited α := ⟨⟨F[0], hF _ (List.getElem_mem hF0)⟩⟩
  let enc : α → Value := fun x => .int .i64 (x.val : Int)
  let cf : α → α → Int := fun x y => cfN (nmL xs) x.val y.val
  have hlt : ∀ x y : α, ltOf cf x y = ltN (nmL xs) x.val y.val := fun x y => cfN_lt _ _ _
  have hO : SWO (ltOf cf) := ⟨fun x => by rw [hlt]; exact ltN_irrefl _ _, fun x y z h1 h2 => by rw [hlt] at *; exact ltN_trans h1 h2, fun x y z h1 h2 => by rw [hlt] at *; exact ltN_ntrans h1 h2⟩
  have hT : ∀ x y : α, ltOf cf x y = false → ltOf cf y x = false → x = y := fun x y h1 h2 => by rw [hlt] at h1 h2; exact Subtype.ext (ltN_total h1 h2)
  let L : List α := F.pmap Subtype.mk hF
  have hL : L.map Subtype.val = F := by show (F.pmap Subtype.mk hF).map Subtype.val = F; rw [List.map_pmap]; simp
  have hLl : L.length = F.length := by show (F.pmap Subtype.mk hF).length = _; rw [List.length_pmap]
  have hd : L.toArray.size = F.length := by rw [List.size_toArray, hLl]
  have hget : ∀ j (hj : j < F.length), (L.toArray[j]!).val = F[j] := fun j hj => by
    rw [getElem!_pos L.toArray j (by rw [hd]; exact hj)]
    show (L[j]'(by rw [hLl]; exact hj)).val = F[j]
    show ((F.pmap Subtype.mk hF)[j]'(by rw [List.length_pmap]; exact hj)).val = F[j]
    rw [List.getElem_pmap]
  have hHold : Holds enc w g 0 L.toArray := fun j hj => by
    rw [hd] at hj
    have h1 := hrow.at_ j (F[j] : Int) (castL_get (List.getElem?_eq_getElem hj))
    have h2 := hrow.there j (Nat.lt_of_lt_of_le (by simpa [castL] using hj) hrow.le)
    refine ⟨?_, h2.2⟩
    rw [h1]
    show _ = some (Value.int .i64 ((L.toArray[j]!).val : Int))
    rw [hget j hj]
  have hfar : ∀ (m : Nat) (os : Array Obj) (dk : Array α) (w' : World), Cls (sortWorld enc w g 0 m dk os) w' → ∀ (b1 o1 : Nat) (v : Value), b1 ≠ g → w.cell? ⟨b1, o1, none⟩ = some v → w'.cell? ⟨b1, o1, none⟩ = some v := fun m os dk w' hC b1 o1 v hne hc => by
    have hb1 : b1 < w.heap.size := cell_lt hc
    have h1 : (sortWorld enc w g 0 m dk os).cell? ⟨b1, o1, none⟩ = some v := (cell_same (sortWorld_far enc w g 0 m dk os hb1 hne) _ _).trans hc
    exact below_cell hC.below h1 (cell_lt h1)
  have hgb : w0.heap.size ≤ g := Nat.le_trans hbase hrow.lo
  have hn : n = xs.length := hx.n_eq
  have hlast : ∀ (x : α) (W : World), (∀ (b1 o1 : Nat) (v : Value), b1 ≠ g → w.cell? ⟨b1, o1, none⟩ = some v → W.cell? ⟨b1, o1, none⟩ = some v) →
      Calls Tryz.prog 58 #[.int .i64 (x.val : Int), .pointer (some ⟨b0, 0, none⟩), .pointer (some ⟨hB, 0, none⟩)] W fun e w'' => e = .returned (.string (lastN (xs[x.val]'x.property.1).path)) ∧ w'' = W.drew := fun x W hW => by
    obtain ⟨i, hi, hil⟩ := x
    obtain ⟨b', o', cs, hAe, _, hbb, hh', hcell⟩ := hx.elem (List.getElem?_eq_getElem hi)
    obtain ⟨s0, s1, s2, s3, rfl, hp, _, _, _, _, _, _, _, _⟩ := hh'
    obtain ⟨pA, pc, rfl, _, _⟩ := hp.val
    simp only [Option.some.injEq, Addr.mk.injEq] at hAe
    obtain ⟨rfl, rfl, _⟩ := hAe
    obtain ⟨g', u, rfl, hg', hlc, _⟩ := last_cell hp hil
    have d0 := below_cell hw (hcell 0 _ rfl) hbb
    have d1 := below_cell hw hlc hg'
    simp only [rDir, Nat.add_zero] at d0
    rw [hil] at d0
    exact lastAt_any i n c h pc hc b0 hB b o g' u hA _ W (by rw [hn]; exact hi) (hW _ _ _ n0 c0) (hW _ _ _ (by omega) d0) (hW _ _ _ n1 c1) (hW _ _ _ (by omega) d1) hh
  have hcmp : CmpLays1 Tryz.prog 60 #[.pointer (some ⟨b9, 0, none⟩)] enc cf g 0 L.toArray.size w := fun m os dk hs x y => by
    have hz := fun w' (hC : Cls (sortWorld enc w g 0 m dk os) w') => hfar m os dk w' hC
    have := order_any x.val y.val b0 hB b9 (lastN (xs[x.val]'x.property.1).path) (lastN (xs[y.val]'y.property.1).path) (sortWorld enc w g 0 m dk os) (hz _ (Cls.refl _) _ _ _ n9 c2) (fun w' hC => hlast x w' (hz w' hC)) (fun w' hC => hlast y w' (hz w' hC))
    refine this.mono fun e w' ⟨he, hC⟩ => ⟨?_, hC⟩
    rw [he]
    show _ = Ending.returned (Value.int .i64 (cfN (nmL xs) x.val y.val))
    unfold cfN
    rw [nmL_at x.property.1, nmL_at y.property.1]
  have hS := Tryz.slices_SortFunc_total enc (fun x => rfl) cf hO 60 #[.pointer (some ⟨b9, 0, none⟩)] g 0 cap L.toArray w (enters_of Tryz.func60 (by kernel_rfl) rfl) hcmp hHold hrow.lt (by rw [hd]; exact hF63) hT
  rw [hd] at hS
  refine hS.mono ?_
  rintro e w' ⟨rfl, m, os, rfl⟩
  have hM : ((L.mergeSort fun x y => !(ltOf cf) y x).map Subtype.val) = R := by
    refine ins_unique (nm := nmL xs) ?_ hRs ?_
    · exact (((List.mergeSort_perm L _).map Subtype.val).trans (by rw [hL])).trans hR.symm
    · rw [List.pairwise_map]
      refine (List.pairwise_mergeSort (le := fun x y => !(ltOf cf) y x) ?_ ?_ L).imp fun {x y} hxy => ?_
      · intro x y z h1 h2
        simp only [Bool.not_eq_true'] at h1 h2 ⊢
        exact hO.ntrans z y x h2 h1
      · intro x y
        cases hyx : ltOf cf y x with
        | false => simp
        | true => rw [hlt] at *; simp [ltN_asymm hyx]
      · rw [hlt] at hxy; exact hxy
  have hMl : (L.mergeSort fun x y => !(ltOf cf) y x).length = F.length := by rw [List.length_mergeSort, hLl]
  have hRl : (castL R).length = F.length := by unfold castL; rw [List.length_map]; exact hR.length_eq
  refine ⟨rfl, ?_, sortWorld_grown _ _ _ _ _ _ _⟩
  have hH2 := holds_sortWorld enc w g 0 m L.toArray (L.mergeSort fun x y => !(ltOf cf) y x).toArray os hrow.lt hHold (by rw [List.size_toArray, hMl, hd])
  have hg2 : g < (sortWorld enc w g 0 m (L.mergeSort fun x y => !(ltOf cf) y x).toArray os).heap.size := Nat.lt_of_lt_of_le hrow.lt (sortWorld_grown enc w g 0 m _ os).size
  have hcl : (castL F).length = F.length := by unfold castL; rw [List.length_map]
  refine ⟨some ⟨g, 0, none⟩, cap, by rw [hRl], by rw [hRl, ← hcl]; exact hrow.le, hrow.max, (fun e => by cases e), fun _ => ⟨g, 0, rfl, hrow.lo, hg2, fun i x hx => ?_⟩⟩
  have hi : i < F.length := by rw [← hRl]; exact (List.getElem?_eq_some_iff.1 hx).1
  have h3 := (hH2 i (by rw [List.size_toArray, hMl]; exact hi)).1
  rw [getElem!_pos _ i (by rw [List.size_toArray, hMl]; exact hi)] at h3
  have hxv : x = (((L.mergeSort fun x y => !(ltOf cf) y x)[i]'(by rw [hMl]; exact hi)).val : Int) := by
    rw [← hM] at hx
    unfold castL at hx
    rw [List.getElem?_map, List.getElem?_map, List.getElem?_eq_getElem (by rw [hMl]; exact hi)] at hx
    simpa using hx.symm
  refine ⟨[.int .i64 x], ⟨rfl, ?_⟩, fun j u hu => ?_⟩
  · have hv := ((L.mergeSort fun x y => !(ltOf cf) y x)[i]'(by rw [hMl]; exact hi)).property.1
    unfold I64; rw [hxv]; omega
  · cases j with
    | zero =>
      simp at hu; subst hu
      rw [hxv]
      simpa [rInt, enc] using h3
    | succ j => simp at hu
end Go.Proofs.YtanipbpphbkmcaaGreatDoor
