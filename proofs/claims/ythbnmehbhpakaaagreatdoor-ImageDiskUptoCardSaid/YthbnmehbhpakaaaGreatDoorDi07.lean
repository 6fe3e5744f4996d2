/-
  Paths held against one another; the place of a directory.
  A row of ints of the call's own, told by its cells: it is read, written at its places, appended to, and its head moves on.
-/
import Derived.Test.YthbnmehbhpakaaaGreatDoorDi06
import Derived.Test.YthbnmehbhpakaaaGreatDoorDi04
import Derived.Test.YthbnmehbhpakaaaGreatDoorDi02
import Derived.Test.YthbnmehbhpakaaaGreatDoorDi01
import Derived.Laws.OwnMore
import Derived.Deep.AppendSrc
import Derived.Deep.Upon
set_option autoImplicit false
set_option relaxedAutoImplicit false
set_option linter.unusedVariables false
set_option linter.unusedSimpArgs false
namespace Go.Proofs.YthbnmehbhpakaaaGreatDoor
open Go.Rows Go.RowKit Go.Shelf Go.Sort

/-- the first that is asked for -/
def firstGo (q : Dir → Bool) : List Dir → Nat → Int
  | [], _ => -1
  | d :: l, k => bif q d then (k : Int) else firstGo q l (k + 1)
def firstI (q : Dir → Bool) (t : List Dir) : Int := firstGo q t 0
theorem firstGo_at (q : Dir → Bool) {t : List Dir} {k : Nat} (h : k < t.length) : firstGo q (t.drop k) k = bif q t[k] then (k : Int) else firstGo q (t.drop (k + 1)) (k + 1) := by
  rw [List.drop_eq_getElem_cons h, firstGo]
theorem firstGo_le (q : Dir → Bool) : ∀ (t : List Dir) (k : Nat), (firstGo q t k = -1 ∧ t.any q = false) ∨ ∃ j : Nat, firstGo q t k = (j : Int) ∧ k ≤ j ∧ j < k + t.length ∧ t.any q = true := by
  intro t
  induction t with
  | nil => intro k; exact .inl ⟨rfl, rfl⟩
  | cons d l ih =>
    intro k
    rw [firstGo, List.any_cons]
    cases q d
    · rcases ih (k + 1) with h | ⟨j, h, hj, hl, ha⟩
      · exact .inl h
      · exact .inr ⟨j, h, by omega, by rw [List.length_cons]; omega, by rw [ha]; rfl⟩
    · exact .inr ⟨k, rfl, Nat.le_refl _, by rw [List.length_cons]; omega, rfl⟩
theorem firstI_lt (q : Dir → Bool) (t : List Dir) : (firstI q t = -1 ∧ t.any q = false) ∨ ∃ j : Nat, firstI q t = (j : Int) ∧ j < t.length ∧ t.any q = true := by
  rcases firstGo_le q t 0 with h | ⟨j, h, _, hj, ha⟩
  · exact .inl h
  · exact .inr ⟨j, h, by omega, ha⟩
/-- the place of a directory -/
noncomputable def findI (t : List Dir) (p : List ByteArray) : Int := firstI (fun d => eqB d.path p) t

theorem strsEq_any (A B : Option Addr) (n m c d : Nat) (xs ys : List ByteArray) (w : World) (S T : Nat → Prop) (hx : SlV rStr w S xs (.slice A n c)) (hy : SlV rStr w T ys (.slice B m d)) :
    Calls Tryz.prog 75 #[.slice A n c, .slice B m d] w fun e w' => e = .returned (.bool (eqB xs ys)) ∧ Below w.heap.size w w' := by
  have hnx := hx.n_eq
  have hny := hy.n_eq
  have hcx := hx.cap_le
  have hcy := hy.cap_le
  unfold maxLen at hcx hcy
  by_cases hnm : n = m
  · by_cases h0 : n = 0
    · subst h0; subst hnm
      have e1 : xs = [] := List.eq_nil_of_length_eq_zero hnx.symm
      have e2 : ys = [] := List.eq_nil_of_length_eq_zero hny.symm
      refine (Tryz.slices_Equal_string_empty A B c 0 d w (by omega)).mono ?_
      rintro e w' ⟨rfl, rfl⟩
      exact ⟨by rw [eqB_true (e1.trans e2.symm)]; rfl, Below.refl _ _⟩
    · have hx0 : 0 < xs.length := by omega
      have hy0 : 0 < ys.length := by omega
      obtain ⟨b, o, cs, rfl, _, _, _, _⟩ := hx.elem (List.getElem?_eq_getElem hx0)
      obtain ⟨b', o', cs', rfl, _, _, _, _⟩ := hy.elem (List.getElem?_eq_getElem hy0)
      refine (Tryz.slices_Equal_string b o n c b' o' m d xs ys w (by omega) (by omega) (by omega) (by omega) (fun j hj => ?_) (fun j hj => ?_)).mono ?_
      · obtain ⟨b2, o2, cs2, e, _, _, ⟨rfl, _⟩, hcell⟩ := hx.elem (List.getElem?_eq_getElem hj)
        have := hcell 0 _ rfl
        simp only [Option.some.injEq, Addr.mk.injEq] at e
        obtain ⟨rfl, rfl, _⟩ := e
        simp only [rStr, Nat.add_zero, Nat.mul_one] at this
        rw [this, List.getD_eq_getElem?_getD, List.getElem?_eq_getElem hj]; rfl
      · obtain ⟨b2, o2, cs2, e, _, _, ⟨rfl, _⟩, hcell⟩ := hy.elem (List.getElem?_eq_getElem hj)
        have := hcell 0 _ rfl
        simp only [Option.some.injEq, Addr.mk.injEq] at e
        obtain ⟨rfl, rfl, _⟩ := e
        simp only [rStr, Nat.add_zero, Nat.mul_one] at this
        rw [this, List.getD_eq_getElem?_getD, List.getElem?_eq_getElem hj]; rfl
      · rintro e w' ⟨rfl, q, rfl⟩
        refine ⟨?_, ⟨rfl, rfl, rfl, Nat.le_refl _, fun _ _ => rfl⟩⟩
        rw [hnx, hny, List.take_length, List.take_length]
        by_cases e : xs = ys
        · rw [eqB_true e, decide_eq_true e]
        · rw [eqB_false e, decide_eq_false e]
  · refine (Tryz.slices_Equal_string_lens A B n c m d w hnm).mono ?_
    rintro e w' ⟨rfl, rfl⟩
    exact ⟨by rw [eqB_false (by rintro rfl; omega)], Below.refl _ _⟩

end Go.Proofs.YthbnmehbhpakaaaGreatDoor
/-
  slices.IndexFunc over directories, tree.Find and the document's Find.
-/
set_option autoImplicit false
set_option relaxedAutoImplicit false
set_option linter.unusedVariables false
set_option linter.unusedSimpArgs false
namespace Go.Proofs.YthbnmehbhpakaaaGreatDoor
open Go.Rows Go.RowKit Go.Shelf Go.Sort

set_option maxHeartbeats 1600000 in
set_option maxRecDepth 100000 in
theorem indexFunc_any (g : FuncId) (cap : Value) (hE : Enters Tryz.prog g) (q : Dir → Bool) (A : Option Addr) (n c : Nat) (xs : List Dir) (w : World) (S : Nat → Prop) (hx : SlV rDir w S xs (.slice A n c))
    (hq : ∀ W d cs, Below w.heap.size w W → d ∈ xs → rDir.holds W (fun b => b < w.heap.size) d cs → Calls Tryz.prog g #[.agg cs.toArray, cap] W fun e w' => e = .returned (.bool (q d)) ∧ Below W.heap.size W w') :
    Calls Tryz.prog 125 #[.slice A n c, .func (.func g) #[] #[cap]] w fun e w' => e = .returned (.int .i64 (firstI q xs)) ∧ Below w.heap.size w w' := by
  have hnx := hx.n_eq
  have hcx := hx.cap_le
  unfold maxLen at hcx
  have hn63 : n ≤ 9223372036854775807 := by omega
  have hx' := hx.more (S' := fun b => b < w.heap.size) fun b _ h => h
  have Hend : Hid (firstI q xs = firstGo q (xs.drop 0) 0) := rfl
  have Hq := Lib.hid hq; clear hq
  have Hnx := Lib.hid hnx; clear hnx
  clear hcx hx
  generalize firstI q xs = r at *
  go_enter Tryz.func125, Tryz.ntmps125
  go_wp2_with fail
  go_loopw [8] (fun i wr => ∃ k : Nat, k ≤ n ∧ i = .int .i64 k ∧ Hid (r = firstGo q (xs.drop k) k) ∧ Below w.heap.size w wr) (fun i _ => n - (intOf i).toNat)
  case atStart => exact ⟨0, Nat.zero_le _, rfl, Hend, Below.refl _ _⟩
  case round =>
    obtain ⟨k, hk, rfl, heq, hbel⟩ := hrel
    by_cases hlt : k < n
    · have hkx : k < xs.length := by have := Hnx.out; omega
      have hxw := hx'.below hbel (fun b h => h)
      obtain ⟨b, o, cs, rfl, _, hb1, hh, hcell⟩ := hxw.elem (List.getElem?_eq_getElem hkx)
      have Hcall := Lib.hid (Hq.out wr xs[k] cs hbel (List.getElem_mem hkx) hh)
      have Hat := Lib.hid (firstGo_at q hkx)
      obtain ⟨s0, s1, s2, s3, rfl, hp0, _, _, _, _, hp1, hp2, hp3, _⟩ := hh
      obtain ⟨pA, pc, rfl, _, _⟩ := hp0.val
      obtain ⟨pB, pd, rfl, _, _⟩ := hp1.val
      obtain ⟨pC, pe, rfl, _, _⟩ := hp2.val
      obtain ⟨pD, pf, rfl, _, _⟩ := hp3.val
      have c0 := hcell 0 _ rfl
      have c1 := hcell 1 _ rfl
      have c2 := hcell 2 _ rfl
      have c3 := hcell 3 _ rfl
      have c4 := hcell 4 _ rfl
      have c5 := hcell 5 _ rfl
      have c6 := hcell 6 _ rfl
      have c7 := hcell 7 _ rfl
      have c8 := hcell 8 _ rfl
      simp only [rDir, Nat.add_zero] at c0 c1 c2 c3 c4 c5 c6 c7 c8
      clear hcell hxw hp0 hp1 hp2 hp3
      have hk0 : (0 : Int) ≤ (k : Int) := by omega
      have hkn : (k : Int) < (n : Int) := by omega
      have hent := fun args W => hE args W
      generalize q xs[k] = v at *
      generalize xs[k].path.length = l0 at *
      generalize xs[k].pack.deps.length = l1 at *
      generalize xs[k].pack.peers.length = l2 at *
      generalize xs[k].pack.opts.length = l3 at *
      generalize xs[k].pack.name = nm at *
      generalize xs[k].pack.ver.major = y1 at *
      generalize xs[k].pack.ver.minor = y2 at *
      generalize xs[k].pack.ver.patch = y3 at *
      generalize xs[k].node = nd at *
      cases v
      · have He : Hid (r = firstGo q (xs.drop (k + 1)) (k + 1)) := by unfold Hid; rw [heq.out, Hat.out]; rfl
        clear Hat heq
        go_wp2_with fail
        refine (Hcall.out).mono ?_
        rintro e w1 ⟨rfl, B1⟩
        go_wp2_with fail
        go_roundw
        case rel => exact ⟨k + 1, by omega, by go_num, He, bot hbel B1⟩
        case measure => simp [intOf]; omega
      · have He : Hid (r = (k : Int)) := by unfold Hid; rw [heq.out, Hat.out]; rfl
        clear Hat heq
        go_wp2_with fail
        refine (Hcall.out).mono ?_
        rintro e w1 ⟨rfl, B1⟩
        go_wp2_with fail
        go_ret
        exact ⟨ret_int He.out.symm, bot hbel B1⟩
    · have He : Hid (r = -1) := by unfold Hid; rw [heq.out, List.drop_eq_nil_of_le (by have := Hnx.out; omega)]; rfl
      go_wp2_with fail
      go_ret
      exact ⟨ret_int He.out.symm, hbel⟩

theorem enters_find1 : Enters Tryz.prog 126 := enters_of Tryz.func126 (by kernel_rfl) rfl

set_option maxHeartbeats 800000 in
theorem find1_any (d : Dir) (cs : List Value) (pb : Nat) (B : Option Addr) (m e : Nat) (ys : List ByteArray) (w : World) (S T : Nat → Prop) (hd : rDir.holds w S d cs) (hc : w.cell? ⟨pb, 0, none⟩ = some (.slice B m e)) (hy : SlV rStr w T ys (.slice B m e)) :
    Calls Tryz.prog 126 #[.agg cs.toArray, .pointer (some ⟨pb, 0, none⟩)] w fun e w' => e = .returned (.bool (eqB d.path ys)) ∧ Below w.heap.size w w' := by
  obtain ⟨s0, s1, s2, s3, rfl, hp0, _, _, _, _, hp1, hp2, hp3, _⟩ := hd
  obtain ⟨pA, pc, rfl, _, _⟩ := hp0.val
  obtain ⟨pB, pd, rfl, _, _⟩ := hp1.val
  obtain ⟨pC, pe, rfl, _, _⟩ := hp2.val
  obtain ⟨pD, pf, rfl, _, _⟩ := hp3.val
  have hlt : pb < w.heap.size := World.block_lt_of_cell? w _ hc
  have Hc : Hid (∀ o : Obj, Calls Tryz.prog 75 #[.slice pA d.path.length pc, .slice B m e] (w.alloc o) fun e w' => e = .returned (.bool (eqB d.path ys)) ∧ Below (w.alloc o).heap.size (w.alloc o) w') := fun o => strsEq_any _ _ _ _ _ _ _ _ _ _ _ (hp0.alloc o) (hy.alloc o)
  have hc' : ∀ o : Obj, (w.alloc o).cell? ⟨pb, 0, none⟩ = some (.slice B m e) := fun o => below_cell (bal (Below.refl _ _) o) hc hlt
  clear hp0 hp1 hp2 hp3 hy hc
  generalize eqB d.path ys = r at *
  generalize d.path.length = l0 at *
  generalize d.pack.deps.length = l1 at *
  generalize d.pack.peers.length = l2 at *
  generalize d.pack.opts.length = l3 at *
  generalize d.pack.name = nm at *
  generalize d.pack.ver.major = y1 at *
  generalize d.pack.ver.minor = y2 at *
  generalize d.pack.ver.patch = y3 at *
  generalize d.node = nd at *
  go_enter Tryz.func126, Tryz.ntmps126
  go_wp2_with fail
  refine (Hc.out _).mono ?_
  rintro e w1 ⟨rfl, B1⟩
  go_wp2_with fail
  go_ret
  exact ⟨rfl, bnew B1⟩

set_option maxHeartbeats 800000 in
theorem find_any (A B : Option Addr) (n c m d : Nat) (xs : List Dir) (ys : List ByteArray) (w : World) (S T : Nat → Prop) (hx : SlV rDir w S xs (.slice A n c)) (hy : SlV rStr w T ys (.slice B m d)) :
    Calls Tryz.prog 64 #[.agg #[.slice A n c], .slice B m d] w fun e w' => e = .returned (.int .i64 (findI xs ys)) ∧ Below w.heap.size w w' := by
  have Hc : Hid (∀ o t, Calls Tryz.prog 125 #[.slice A n c, .func (.func 126) #[] #[.pointer (some ⟨w.heap.size + 1, 0, none⟩)]] ((w.alloc o).alloc (.cells #[.slice B m d] t)) fun e w' => e = .returned (.int .i64 (findI xs ys)) ∧ Below ((w.alloc o).alloc (.cells #[.slice B m d] t)).heap.size ((w.alloc o).alloc (.cells #[.slice B m d] t)) w') := fun o t => by
    refine indexFunc_any _ _ enters_find1 _ A n c xs _ S ((hx.alloc o).alloc _) (fun W dd cs hW _ hd => find1_any dd cs _ B m d ys W _ T hd ?_ ?_)
    · exact below_cell hW (by simp [go_sem]) (by simp [go_sem])
    · exact ((hy.alloc o).alloc _).belowSize hW
  clear hx hy
  generalize findI xs ys = r at *
  go_enter Tryz.func64, Tryz.ntmps64
  go_wp2_with fail
  refine (Hc.out _ _).mono ?_
  rintro e w1 ⟨rfl, B1⟩
  go_wp2_with fail
  go_ret
  exact ⟨rfl, bnew (bnew B1)⟩
end Go.Proofs.YthbnmehbhpakaaaGreatDoor
/-
  The document's Find and Parent.
-/
set_option autoImplicit false
set_option relaxedAutoImplicit false
set_option linter.unusedVariables false
set_option linter.unusedSimpArgs false
namespace Go.Proofs.YthbnmehbhpakaaaGreatDoor
open Go.Rows Go.RowKit Go.Shelf Go.Sort

theorem SlV.take {α : Type} {r : Rp α} {w : World} {S : Nat → Prop} {l : List α} {A : Option Addr} {n c k : Nat} (h : SlV r w S l (.slice A n c)) (hk : k ≤ l.length) : SlV r w S (l.take k) (.slice A k c) := by
  obtain ⟨A', c', h1, h2, h3, h4, h5⟩ := h
  simp only [List.cons.injEq, Value.slice.injEq, and_true] at h1
  obtain ⟨rfl, _, rfl⟩ := h1
  have hl : (l.take k).length = k := by rw [List.length_take]; omega
  refine ⟨A, c, by rw [hl], by omega, h3, h4, fun hn => ?_⟩
  obtain ⟨b, o, hA, hS, hb, hr⟩ := h5 (by omega)
  refine ⟨b, o, hA, hS, hb, fun i x hx => hr i x ?_⟩
  rw [List.getElem?_take] at hx
  split at hx
  · exact hx
  · cases hx

/-- the place above a directory that is there and is not the root -/
noncomputable def aboveI (t : List Dir) (p : List ByteArray) : Int := findI t (p.take (p.length - 1))

end Go.Proofs.YthbnmehbhpakaaaGreatDoor
set_option autoImplicit false
set_option relaxedAutoImplicit false
set_option linter.unusedVariables false
set_option linter.unusedSimpArgs false
namespace Go.Proofs.YthbnmehbhpakaaaGreatDoor
open Go.RowKit

theorem cell_set_same {w : World} {a : Addr} {v u : Value} (h : w.cell? a = some u) : (w.setCell a v).cell? a = some v := by
  apply World.cell?_setCell_same (h := h)
theorem cell_set_off {w : World} {g o o' : Nat} {v : Value} (h : o ≠ o') : (w.setCell ⟨g, o, none⟩ v).cell? ⟨g, o', none⟩ = w.cell? ⟨g, o', none⟩ := by
  apply World.cell?_setCell_other
  intro e
  simp only [Addr.mk.injEq] at e
  exact h e.2.1
/-- the value is '.slice (some ⟨g, k, none⟩) l.length cap' -/
structure IRow (w : World) (base g k cap : Nat) (l : List Int) : Prop where
  lo : base ≤ g
  le : l.length ≤ cap
  max : cap ≤ maxLen
  lt : g < w.heap.size
  at_ : ∀ (j : Nat) (x : Int), l[j]? = some x → w.cell? ⟨g, k + j, none⟩ = some (.int .i64 x)
  there : ∀ j, j < cap → (w.cell? ⟨g, k + j, none⟩).isSome = true ∧ w.frozen? ⟨g, k + j, none⟩ = false

section
variable {w w' : World} {base g k cap : Nat} {l : List Int}
theorem IRow.keepBlock (h : IRow w base g k cap l) (hs : w.heap.size ≤ w'.heap.size) (hb : w'.heap[g]? = w.heap[g]?) : IRow w' base g k cap l :=
  ⟨h.lo, h.le, h.max, Nat.lt_of_lt_of_le h.lt hs, fun j x hj => (cell_same hb _ _).trans (h.at_ j x hj), fun j hj => ⟨by rw [cell_same hb]; exact (h.there j hj).1, (frozen_same hb _ _).trans (h.there j hj).2⟩⟩
theorem IRow.keep (h : IRow w base g k cap l) (hb : Below w.heap.size w w') : IRow w' base g k cap l := h.keepBlock hb.size (hb.block g h.lt)
theorem IRow.alloc (h : IRow w base g k cap l) (o : Obj) : IRow (w.alloc o) base g k cap l := h.keep ((Below.refl _ _).alloc (Nat.le_refl _) o)
theorem IRow.drew (h : IRow w base g k cap l) : IRow w.drew base g k cap l := h.keepBlock (Nat.le_refl _) rfl
theorem IRow.grown (h : IRow w base g k cap l) {row : Option Nat} (hg : w.grownBy w' row) (hne : some g ≠ row) : IRow w' base g k cap l := h.keepBlock hg.size (hg.block g h.lt hne)
theorem IRow.get (h : IRow w base g k cap l) {j : Nat} (hj : j < l.length) : w.cell? ⟨g, k + j, none⟩ = some (.int .i64 l[j]) := h.at_ j _ (List.getElem?_eq_getElem hj)
theorem IRow.frozen (h : IRow w base g k cap l) {j : Nat} (hj : j < cap) : w.frozen? ⟨g, k + j, none⟩ = false := (h.there j hj).2
theorem IRow.tail {x : Int} (h : IRow w base g k cap (x :: l)) : IRow w base g (k + 1) (cap - 1) l := by
  have h1 := h.le
  have h2 := h.max
  rw [List.length_cons] at h1
  exact ⟨h.lo, by omega, by omega, h.lt, fun j y hj => by rw [show k + 1 + j = k + (j + 1) by omega]; exact h.at_ (j + 1) y (by simpa using hj),
    fun j hj => by rw [show k + 1 + j = k + (j + 1) by omega]; exact h.there (j + 1) (by omega)⟩
theorem IRow.set (h : IRow w base g k cap l) {j : Nat} (hj : j < l.length) (x : Int) :
    IRow (w.setCell ⟨g, k + j, none⟩ (.int .i64 x)) base g k cap (l.set j x) ∧ w.grownBy (w.setCell ⟨g, k + j, none⟩ (.int .i64 x)) (some g) := by
  have hle := h.le
  refine ⟨⟨h.lo, by simpa using h.le, h.max, by simpa using h.lt, fun i y hi => ?_, fun i hi => ?_⟩, ⟨rfl, rfl, rfl, by simp, fun b _ hk => heap_setCell_other w ⟨g, k + j, none⟩ b _ (fun e => hk (by simp [e]))⟩⟩
  · by_cases hij : i = j
    · subst hij
      rw [List.getElem?_set_self hj] at hi
      injection hi with hi
      subst hi
      exact cell_set_same (h.get hj)
    · rw [List.getElem?_set_ne (Ne.symm hij)] at hi
      rw [cell_set_off (by omega)]
      exact h.at_ i y hi
  · have hf := (h.there i hi)
    refine ⟨?_, (World.frozen?_setCell _ _ _ _).trans hf.2⟩
    by_cases hij : i = j
    · subst hij
      rw [cell_set_same (h.get hj)]; rfl
    · rw [cell_set_off (by omega)]
      exact hf.1
theorem IRow.of_owns {e : TypeId} (h : w.ownsRow base e 1 (.slice (some ⟨g, 0, none⟩) l.length cap) l.length (l.map (Value.int .i64))) : IRow w base g 0 cap l := by
  have hlt := h.lt g rfl
  have hfz := fun j => World.ownsRow.frozenAt h j
  rcases h.2 with ⟨h', _⟩ | ⟨g', cap', cur, h', hb, hg, hnc, hcm, hcs, htake⟩
  · simp at h'
  · simp only [Value.slice.injEq, Option.some.injEq, Addr.mk.injEq, and_true, true_and] at h'
    obtain ⟨rfl, rfl⟩ := h'
    refine ⟨hlt.1, hnc, hcm, hlt.2, fun j x hj => ?_, fun j hj => ⟨?_, by rw [Nat.zero_add]; exact hfz j⟩⟩
    · have hjl : j < l.length := (List.getElem?_eq_some_iff.1 hj).1
      rw [Nat.zero_add, World.ownsRow.cellAt h j (by omega), List.getElem?_map, hj]
      rfl
    · rw [Nat.zero_add, cell_of_row w g j cur e (0, 0) hg, Array.getElem?_eq_getElem (by omega)]
      rfl
theorem IRow.slv (h : IRow w base g k cap l) (hi : ∀ x ∈ l, I64 x) : SlV rInt w (fun b => base ≤ b) l (.slice (some ⟨g, k, none⟩) l.length cap) :=
  ⟨some ⟨g, k, none⟩, cap, rfl, h.le, h.max, (fun e => by cases e), fun _ => ⟨g, k, rfl, h.lo, h.lt, fun i x hx => ⟨[.int .i64 x], ⟨rfl, hi x (List.mem_of_getElem? hx)⟩, fun j u hu => by
    cases j with
    | zero => simp at hu; subst hu; simpa [rInt] using h.at_ i x hx
    | succ j => simp at hu⟩⟩⟩
/-- a row of one's own that was laid as a literal of one element -/
theorem IRow.lit (w : World) (base : Nat) (e : TypeId) (x : Int) (hb : base ≤ w.heap.size) : IRow (w.alloc (.cells #[.int .i64 x] e)) base w.heap.size 0 1 [x] :=
  IRow.of_owns (e := e) (World.ownsRow_lit w #[.int .i64 x] 1 hb (by simp [maxLen]) rfl)

theorem IRow.push {P : Program} {t ty e : TypeId} {bytes : Nat} (E : Elt P e 1 bytes) (ht : P.underlying t = some (.slice e)) (h : IRow w base g k cap l)
    (ad : Addr) (c : Nat) (y : Int) (hy : w.cell? ad = some (.int .i64 y)) (h63 : l.length + 1 ≤ maxLen) (hbytes : (l.length + 1) * bytes ≤ 140737488355328) (hbase : base ≤ w.heap.size) :
    ∃ g' k' cap' w', (Builtin.append_ #[t, t] ty #[.slice (some ⟨g, k, none⟩) l.length cap, .slice (some ad) 1 c]).run P w = .ok (.slice (some ⟨g', k', none⟩) (l.length + 1) cap') w' ∧
      IRow w' base g' k' cap' (l ++ [y]) ∧ w.grownBy w' (some g) ∧ (g' = g ∨ g' = w.heap.size) := by
  obtain ⟨i, z, hi, hz, hsz, hby, hzs, hpos⟩ := E
  have hadd0 : ad.add 0 = ad := by unfold Addr.add; split <;> simp_all
  have hs : Src P i.size t (.slice (some ad) 1 c) 1 [Value.int .i64 y] w := Src.ofSlice (P := P) w ht ad 1 c [Value.int .i64 y] (by rw [hsz]; rfl) (fun j u hu => by
    cases j with
    | zero => simp at hu; subst hu; rw [hadd0]; exact hy
    | succ j => simp at hu) (by simp [Value.oneCell'])
  have hle := h.le
  have hmx := h.max
  by_cases hroom : l.length + 1 ≤ cap
  · have hth := h.there l.length (by omega)
    have hrun := run_append_room_src (P := P) w t t ty e i ht hi g k l.length cap _ 1 _ hs hroom
      (fun j hj => by have : j = 0 := by simpa using hj
                      subst this; rw [hsz, Nat.mul_one, Nat.add_zero]; exact hth.1)
      (fun j hj => by have : j = 0 := by simpa using hj
                      subst this; rw [hsz, Nat.mul_one, Nat.add_zero]; exact hth.2)
    rw [hsz, Nat.mul_one] at hrun
    obtain ⟨u0, hu0⟩ := Option.isSome_iff_exists.1 hth.1
    refine ⟨g, k, cap, _, hrun, ⟨h.lo, by simpa using hroom, hmx, by simpa [World.setCells] using h.lt, fun j x hj => ?_, fun j hj => ?_⟩, ⟨rfl, rfl, rfl, by simp [World.setCells], fun b _ hk => heap_setCell_other w ⟨g, k + l.length, none⟩ b _ (fun e => hk (by simp [e]))⟩, .inl rfl⟩
    · simp only [World.setCells]
      by_cases hjl : j < l.length
      · rw [List.getElem?_append_left hjl] at hj
        rw [cell_set_off (by omega)]
        exact h.at_ j x hj
      · have hjj := (List.getElem?_eq_some_iff.1 hj).1
        simp at hjj
        have : j = l.length := by omega
        subst this
        simp at hj
        subst hj
        exact cell_set_same hu0
    · simp only [World.setCells]
      refine ⟨?_, (World.frozen?_setCell _ _ _ _).trans (h.there j hj).2⟩
      by_cases hjl : j = l.length
      · subst hjl; rw [cell_set_same hu0]; rfl
      · rw [cell_set_off (by omega)]; exact (h.there j hj).1
  · have holds : ∀ j u, (l.map (Value.int .i64))[j]? = some u → w.drew.cell? ((⟨g, k, none⟩ : Addr).add j) = some u := fun j u hu => by
      rw [List.getElem?_map] at hu
      rcases hx : l[j]? with _ | x
      · rw [hx] at hu; cases hu
      · rw [hx] at hu
        injection hu with hu
        subst hu
        rw [Addr.add_lit]
        exact h.at_ j x hx
    have hfc := run_firstCells_some (P := P) w.drew i.size l.length ⟨g, k, none⟩ l.length cap (l.map (Value.int .i64)) (by rw [hsz]; simp) holds
    have hby' := hby
    have hrun := run_append_grow_src (P := P) w t t ty e i z ht hi hz (some ⟨g, k, none⟩) l.length cap (l.map (Value.int .i64)) hfc _ 1 _ hs (by omega) (by unfold maxLen at h63; omega) (growslice_fits (by omega) (by rw [hby]; exact hbytes))
    have hge := grownCap_ge w (l.length + 1) cap e
    have hcm := grownCap_le_maxLen w (l.length + 1) cap e h63
    obtain ⟨C, hC⟩ : ∃ C, C = (l.map (Value.int .i64) ++ [Value.int .i64 y]).toArray ++ Builtin.zeroCells z.cells (grownCap w (l.length + 1) cap e - (l.length + 1)) := ⟨_, rfl⟩
    have e1 : ∀ j, (w.drew.alloc (.cells C e)).cell? ⟨w.heap.size, 0 + j, none⟩ = C[j]? := fun j => by rw [Nat.zero_add]; exact World.cell?_alloc_new w.drew _ _ j
    rw [← hC] at hrun
    refine ⟨w.heap.size, 0, _, _, hrun, ⟨hbase, by simpa using hge, hcm, by simp, fun j x hj => ?_, fun j hj => ⟨?_, by rw [Nat.zero_add]; exact World.frozen?_alloc_new w.drew _ _ j⟩⟩, ⟨rfl, rfl, rfl, by simp, fun b hb _ => Below.heap_alloc w.drew _ b hb⟩, .inr rfl⟩
    · have hjj := (List.getElem?_eq_some_iff.1 hj).1
      simp only [List.length_append, List.length_singleton] at hjj
      rw [e1, hC, Array.getElem?_append_left (by simp; omega), List.getElem?_toArray]
      have : (l.map (Value.int .i64) ++ [Value.int .i64 y]) = (l ++ [y]).map (Value.int .i64) := by simp
      rw [this, List.getElem?_map, hj]
      rfl
    · rw [e1, Array.getElem?_eq_getElem (by
        rw [hC, Array.size_append, List.size_toArray, size_zeroCells, hzs]
        simp only [List.length_append, List.length_map, List.length_singleton, Nat.mul_one]
        omega)]
      rfl
end

section
variable {P : Program} {ops : Array Oper} {o : Oper} {a : Act} {K : Act → World → Prop} {Q : Exit → Act → World → Prop} {bytes : Nat} {w : World} {base g k cap : Nat} {l : List Int}
theorem wp_ipush (hgd : o.guard = none) (s x : Operand) (t e : TypeId) (ho : o.op = .call { callee := .builtin .append, args := #[s, x], argTypes := #[t, t] })
    (E : Elt P e 1 bytes) (ht : P.underlying t = some (.slice e)) (n : Nat) (hn : n = l.length) (hs : a.eval s = .slice (some ⟨g, k, none⟩) n cap) (h : IRow w base g k cap l)
    (ad : Addr) (c : Nat) (y : Int) (hx : a.eval x = .slice (some ad) 1 c) (hy : w.cell? ad = some (.int .i64 y))
    (h63 : l.length + 1 ≤ maxLen) (hbytes : (l.length + 1) * bytes ≤ 140737488355328) (hbase : base ≤ w.heap.size) (H : Nat) (hH : w.heap.size = H)
    (hK : ∀ g' k' cap' w', IRow w' base g' k' cap' (l ++ [y]) → w.grownBy w' (some g) → (g' = g ∨ g' = H) → K (a.put o.dst (.slice (some ⟨g', k', none⟩) (n + 1) cap')) w') :
    o.wp P a w K Q := by
  subst hn
  subst hH
  obtain ⟨g', k', cap', w', hr, h2, h3, h4⟩ := IRow.push (P := P) (ty := o.type) E ht h ad c y hy h63 hbytes hbase
  unfold Oper.wp execOp
  simp only [ho, resolve, invoke, builtin, Sem.run_bind, Sem.run_pure, Result.andThen_ok, List.map_toArray, List.map_cons, List.map_nil, hs, hx, hr]
  exact hK g' k' cap' w' h2 h3 h4
theorem wpList_ipush {rest : List Oper} (hgd : o.guard = none) (s x : Operand) (t e : TypeId) (ho : o.op = .call { callee := .builtin .append, args := #[s, x], argTypes := #[t, t] })
    (E : Elt P e 1 bytes) (ht : P.underlying t = some (.slice e)) (n : Nat) (hn : n = l.length) (hs : a.eval s = .slice (some ⟨g, k, none⟩) n cap) (h : IRow w base g k cap l)
    (ad : Addr) (c : Nat) (y : Int) (hx : a.eval x = .slice (some ad) 1 c) (hy : w.cell? ad = some (.int .i64 y))
    (h63 : l.length + 1 ≤ maxLen) (hbytes : (l.length + 1) * bytes ≤ 140737488355328) (hbase : base ≤ w.heap.size) (H : Nat) (hH : w.heap.size = H)
    (hK : ∀ g' k' cap' w', IRow w' base g' k' cap' (l ++ [y]) → w.grownBy w' (some g) → (g' = g ∨ g' = H) → wpList P ops Q rest (a.put o.dst (.slice (some ⟨g', k', none⟩) (n + 1) cap')) w') :
    wpList P ops Q (o :: rest) a w :=
  wpList_plain hgd fun _ hK' => wp_ipush hgd s x t e ho E ht n hn hs h ad c y hx hy h63 hbytes hbase H hH fun g' k' cap' w' h1 h2 h3 => hK' _ _ (hK g' k' cap' w' h1 h2 h3)
end
end Go.Proofs.YthbnmehbhpakaaaGreatDoor
