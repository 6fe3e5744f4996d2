/-
  Paths held against one another; the place of a directory.
-/
import Derived.Test.YtminjjdnmpaaoaaGreatDoorPp06
import Derived.Test.YtminjjdnmpaaoaaGreatDoorPp03
import Derived.Test.YtminjjdnmpaaoaaGreatDoorPp04
set_option autoImplicit false
set_option relaxedAutoImplicit false
set_option linter.unusedVariables false
set_option linter.unusedSimpArgs false
namespace Go.Proofs.YtminjjdnmpaaoaaGreatDoor
open Go.Rows Go.RowKit Go.Shelf Go.Sort

/-- the first that is asked for -/
def firstGo (q : Dir → Bool) : List Dir → Nat → Int
  | [], _ => -1
  | d :: l, k => bif q d then (k : Int) else firstGo q l (k + 1)
def firstI (q : Dir → Bool) (t : List Dir) : Int := firstGo q t 0
theorem firstGo_at (q : Dir → Bool) {t : List Dir} {k : Nat} (h : k < t.length) : firstGo q (t.drop k) k = bif q t[k] then (k : Int) else firstGo q (t.drop (k + 1)) (k + 1) := by
  rw [List.drop_eq_getElem_cons h, firstGo]
theorem firstGo_le (q : Dir → Bool) : ∀ (t : List Dir) (k : Nat), (firstGo q t k = -1 ∧ t.any q = false) ∨ ∃ j : Nat, firstGo q t k = (j : Int) ∧ k ≤ j ∧ j < k + t.length ∧ t.any q = true := by
  intro t
  induction t with
  | nil => intro k; exact .inl ⟨rfl, rfl⟩
  | cons d l ih =>
    intro k
    rw [firstGo, List.any_cons]
    cases q d
    · rcases ih (k + 1) with h | ⟨j, h, hj, hl, ha⟩
      · exact .inl h
      · exact .inr ⟨j, h, by omega, by rw [List.length_cons]; omega, by rw [ha]; rfl⟩
    · exact .inr ⟨k, rfl, Nat.le_refl _, by rw [List.length_cons]; omega, rfl⟩
theorem firstI_lt (q : Dir → Bool) (t : List Dir) : (firstI q t = -1 ∧ t.any q = false) ∨ ∃ j : Nat, firstI q t = (j : Int) ∧ j < t.length ∧ t.any q = true := by
  rcases firstGo_le q t 0 with h | ⟨j, h, _, hj, ha⟩
  · exact .inl h
  · exact .inr ⟨j, h, by omega, ha⟩
/-- the place of a directory -/
noncomputable def findI (t : List Dir) (p : List ByteArray) : Int := firstI (fun d => eqB d.path p) t

theorem strsEq_any (A B : Option Addr) (n m c d : Nat) (xs ys : List ByteArray) (w : World) (S T : Nat → Prop) (hx : SlV rStr w S xs (.slice A n c)) (hy : SlV rStr w T ys (.slice B m d)) :
    Calls Tryz.prog 40 #[.slice A n c, .slice B m d] w fun e w' => e = .returned (.bool (eqB xs ys)) ∧ Below w.heap.size w w' := by
  have hnx := hx.n_eq
  have hny := hy.n_eq
  have hcx := hx.cap_le
  have hcy := hy.cap_le
  unfold maxLen at hcx hcy
  by_cases hnm : n = m
  · by_cases h0 : n = 0
    · subst h0; subst hnm
      have e1 : xs = [] := List.eq_nil_of_length_eq_zero hnx.symm
      have e2 : ys = [] := List.eq_nil_of_length_eq_zero hny.symm
      refine (Tryz.slices_Equal_string_empty A B c 0 d w (by omega)).mono ?_
      rintro e w' ⟨rfl, rfl⟩
      exact ⟨by rw [eqB_true (e1.trans e2.symm)]; rfl, Below.refl _ _⟩
    · have hx0 : 0 < xs.length := by omega
      have hy0 : 0 < ys.length := by omega
      obtain ⟨b, o, cs, rfl, _, _, _, _⟩ := hx.elem (List.getElem?_eq_getElem hx0)
      obtain ⟨b', o', cs', rfl, _, _, _, _⟩ := hy.elem (List.getElem?_eq_getElem hy0)
      refine (Tryz.slices_Equal_string b o n c b' o' m d xs ys w (by omega) (by omega) (by omega) (by omega) (fun j hj => ?_) (fun j hj => ?_)).mono ?_
      · obtain ⟨b2, o2, cs2, e, _, _, ⟨rfl, _⟩, hcell⟩ := hx.elem (List.getElem?_eq_getElem hj)
        have := hcell 0 _ rfl
        simp only [Option.some.injEq, Addr.mk.injEq] at e
        obtain ⟨rfl, rfl, _⟩ := e
        simp only [rStr, Nat.add_zero, Nat.mul_one] at this
        rw [this, List.getD_eq_getElem?_getD, List.getElem?_eq_getElem hj]; rfl
      · obtain ⟨b2, o2, cs2, e, _, _, ⟨rfl, _⟩, hcell⟩ := hy.elem (List.getElem?_eq_getElem hj)
        have := hcell 0 _ rfl
        simp only [Option.some.injEq, Addr.mk.injEq] at e
        obtain ⟨rfl, rfl, _⟩ := e
        simp only [rStr, Nat.add_zero, Nat.mul_one] at this
        rw [this, List.getD_eq_getElem?_getD, List.getElem?_eq_getElem hj]; rfl
      · rintro e w' ⟨rfl, q, rfl⟩
        refine ⟨?_, ⟨rfl, rfl, rfl, Nat.le_refl _, fun _ _ => rfl⟩⟩
        rw [hnx, hny, List.take_length, List.take_length]
        by_cases e : xs = ys
        · rw [eqB_true e, decide_eq_true e]
        · rw [eqB_false e, decide_eq_false e]
  · refine (Tryz.slices_Equal_string_lens A B n c m d w hnm).mono ?_
    rintro e w' ⟨rfl, rfl⟩
    exact ⟨by rw [eqB_false (by rintro rfl; omega)], Below.refl _ _⟩

set_option maxHeartbeats 1600000 in
set_option maxRecDepth 100000 in
theorem refPath_any (A B : Option Addr) (n m c d : Nat) (xs ys : List ByteArray) (w : World) (S T : Nat → Prop) (hx : SlV rStr w S xs (.slice A n c)) (hy : SlV rStr w T ys (.slice B m d)) :
    Calls Tryz.prog 31 #[.slice A n c, .slice B m d] w fun e w' => e = .returned (.bool (eqB xs ys)) ∧ Below w.heap.size w w' := by
  have hnx := hx.n_eq
  have hny := hy.n_eq
  have hcx := hx.cap_le
  have hcy := hy.cap_le
  unfold maxLen at hcx hcy
  by_cases hnm : n = m
  · have hb : ((n : Int) != (m : Int)) = false := by simp [hnm]
    have hn63 : n ≤ 9223372036854775807 := by omega
    have hx' := hx.more (S' := fun b => b < w.heap.size) fun b _ h => h
    have hy' := hy.more (S' := fun b => b < w.heap.size) fun b _ h => h
    have Hpos : Hid (xs = ys → eqB xs ys = true) := fun h => eqB_true h
    have Hneg : Hid (xs ≠ ys → eqB xs ys = false) := fun h => eqB_false h
    have Hnm := Lib.hid hnm; clear hnm
    have Hnx := Lib.hid hnx; clear hnx
    have Hny := Lib.hid hny; clear hny
    clear hcx hcy hx hy
    generalize eqB xs ys = r at *
    go_enter Tryz.func31, Tryz.ntmps31
    go_wp2_with fail
    go_loopw [5] (fun i wr => ∃ k : Nat, k ≤ n ∧ i = .int .i64 k ∧ Hid (xs.take k = ys.take k) ∧ Below w.heap.size w wr) (fun i _ => n - (intOf i).toNat)
    case atStart => exact ⟨0, Nat.zero_le _, rfl, by simp [Hid], Below.refl _ _⟩
    case round =>
      obtain ⟨k, hk, rfl, heq, hbel⟩ := hrel
      by_cases hlt : k < n
      · have hkx : k < xs.length := by have := Hnx.out; omega
        have hky : k < ys.length := by have := Hny.out; have := Hnm.out; omega
        have hkm : k < m := by have := Hnm.out; omega
        have hxw := hx'.below hbel (fun b h => h)
        have hyw := hy'.below hbel (fun b h => h)
        obtain ⟨b, o, cs, rfl, _, hb1, ⟨rfl, _⟩, hcell⟩ := hxw.elem (List.getElem?_eq_getElem hkx)
        obtain ⟨b', o', cs', rfl, _, hb2, ⟨rfl, _⟩, hcell'⟩ := hyw.elem (List.getElem?_eq_getElem hky)
        have c0 := hcell 0 _ rfl
        have d0 := hcell' 0 _ rfl
        simp only [rStr, Nat.add_zero, Nat.mul_one] at c0 d0
        clear hcell hcell' hxw hyw
        have Hne := Lib.hid (fun h => ne_at hkx hky h)
        have Hen := Lib.hid (fun h => take_next heq.out hkx hky h)
        have Hq2 : Hid (xs[k] ≠ ys[k] → r = false) := fun h => Hneg.out (Hne.out h)
        clear Hne
        have hk0 : (0 : Int) ≤ (k : Int) := by omega
        have hkn : (k : Int) < (n : Int) := by omega
        have hkm' : (k : Int) < (m : Int) := by omega
        generalize xs[k] = n1 at *
        generalize ys[k] = n2 at *
        have r_c0 := cell_regrown c0
        have r_d0 := cell_regrown d0
        by_cases hn : n1 = n2
        · have hbn := beq_true hn
          have He := Lib.hid (Hen.out hn)
          clear Hen Hq2 hn
          go_wp2_with fail
          refine wp_region_qb (by kernel_rfl) (by kernel_rfl) ?_
          repeat (go_big_quiet_step (first | fail))
          refine wpQuiet_nil ?_
          intro w1 B1
          go_wp2_with fail
          go_roundw
          case rel => exact ⟨k + 1, by omega, by go_num, He, bot hbel B1⟩
          case measure => simp [intOf]; omega
        · have hbn := beq_false hn
          have He := Lib.hid (Hq2.out hn)
          clear Hen Hq2 hn
          go_wp2_with fail
          refine wp_region_qb (by kernel_rfl) (by kernel_rfl) ?_
          repeat (go_big_quiet_step (first | fail))
          refine wpQuiet_nil ?_
          intro w1 B1
          go_wp2_with fail
          go_ret
          exact ⟨ret_bool He.out.symm, bot hbel B1⟩
      · have He : Hid (r = true) := Hpos.out (eq_of_takes heq.out (by have := Hnx.out; omega) (by have := Hny.out; have := Hnm.out; omega))
        go_wp2_with fail
        go_ret
        exact ⟨ret_bool He.out.symm, hbel⟩
  · have hb : ((n : Int) != (m : Int)) = true := by simp; omega
    have He : Hid (eqB xs ys = false) := eqB_false (by rintro rfl; omega)
    clear hnx hny hcx hcy hx hy hnm
    generalize eqB xs ys = r at *
    go_enter Tryz.func31, Tryz.ntmps31
    go_wp2_with fail
    go_ret
    exact ⟨ret_bool He.out.symm, Below.refl _ _⟩
end Go.Proofs.YtminjjdnmpaaoaaGreatDoor
/-
  slices.IndexFunc over directories, tree.Find and the document's Find.
-/
set_option autoImplicit false
set_option relaxedAutoImplicit false
set_option linter.unusedVariables false
set_option linter.unusedSimpArgs false
namespace Go.Proofs.YtminjjdnmpaaoaaGreatDoor
open Go.Rows Go.RowKit Go.Shelf Go.Sort

set_option maxHeartbeats 1600000 in
set_option maxRecDepth 100000 in
theorem indexFunc_any (g : FuncId) (cap : Value) (hE : Enters Tryz.prog g) (q : Dir → Bool) (A : Option Addr) (n c : Nat) (xs : List Dir) (w : World) (S : Nat → Prop) (hx : SlV rDir w S xs (.slice A n c))
    (hq : ∀ W d cs, Below w.heap.size w W → d ∈ xs → rDir.holds W (fun b => b < w.heap.size) d cs → Calls Tryz.prog g #[.agg cs.toArray, cap] W fun e w' => e = .returned (.bool (q d)) ∧ Below W.heap.size W w') :
    Calls Tryz.prog 38 #[.slice A n c, .func (.func g) #[] #[cap]] w fun e w' => e = .returned (.int .i64 (firstI q xs)) ∧ Below w.heap.size w w' := by
  have hnx := hx.n_eq
  have hcx := hx.cap_le
  unfold maxLen at hcx
  have hn63 : n ≤ 9223372036854775807 := by omega
  have hx' := hx.more (S' := fun b => b < w.heap.size) fun b _ h => h
  have Hend : Hid (firstI q xs = firstGo q (xs.drop 0) 0) := rfl
  have Hq := Lib.hid hq; clear hq
  have Hnx := Lib.hid hnx; clear hnx
  clear hcx hx
  generalize firstI q xs = r at *
  go_enter Tryz.func38, Tryz.ntmps38
  go_wp2_with fail
  go_loopw [8] (fun i wr => ∃ k : Nat, k ≤ n ∧ i = .int .i64 k ∧ Hid (r = firstGo q (xs.drop k) k) ∧ Below w.heap.size w wr) (fun i _ => n - (intOf i).toNat)
  case atStart => exact ⟨0, Nat.zero_le _, rfl, Hend, Below.refl _ _⟩
  case round =>
    obtain ⟨k, hk, rfl, heq, hbel⟩ := hrel
    by_cases hlt : k < n
    · have hkx : k < xs.length := by have := Hnx.out; omega
      have hxw := hx'.below hbel (fun b h => h)
      obtain ⟨b, o, cs, rfl, _, hb1, hh, hcell⟩ := hxw.elem (List.getElem?_eq_getElem hkx)
      have Hcall := Lib.hid (Hq.out wr xs[k] cs hbel (List.getElem_mem hkx) hh)
      have Hat := Lib.hid (firstGo_at q hkx)
      obtain ⟨s0, s1, s2, s3, rfl, hp0, _, _, _, _, hp1, hp2, hp3, _⟩ := hh
      obtain ⟨pA, pc, rfl, _, _⟩ := hp0.val
      obtain ⟨pB, pd, rfl, _, _⟩ := hp1.val
      obtain ⟨pC, pe, rfl, _, _⟩ := hp2.val
      obtain ⟨pD, pf, rfl, _, _⟩ := hp3.val
      have c0 := hcell 0 _ rfl
      have c1 := hcell 1 _ rfl
      have c2 := hcell 2 _ rfl
      have c3 := hcell 3 _ rfl
      have c4 := hcell 4 _ rfl
      have c5 := hcell 5 _ rfl
      have c6 := hcell 6 _ rfl
      have c7 := hcell 7 _ rfl
      have c8 := hcell 8 _ rfl
      simp only [rDir, Nat.add_zero] at c0 c1 c2 c3 c4 c5 c6 c7 c8
      clear hcell hxw hp0 hp1 hp2 hp3
      have hk0 : (0 : Int) ≤ (k : Int) := by omega
      have hkn : (k : Int) < (n : Int) := by omega
      have hent := fun args W => hE args W
      generalize q xs[k] = v at *
      generalize xs[k].path.length = l0 at *
      generalize xs[k].pack.deps.length = l1 at *
      generalize xs[k].pack.peers.length = l2 at *
      generalize xs[k].pack.opts.length = l3 at *
      generalize xs[k].pack.name = nm at *
      generalize xs[k].pack.ver.major = y1 at *
      generalize xs[k].pack.ver.minor = y2 at *
      generalize xs[k].pack.ver.patch = y3 at *
      generalize xs[k].node = nd at *
      cases v
      · have He : Hid (r = firstGo q (xs.drop (k + 1)) (k + 1)) := by unfold Hid; rw [heq.out, Hat.out]; rfl
        clear Hat heq
        go_wp2_with fail
        refine (Hcall.out).mono ?_
        rintro e w1 ⟨rfl, B1⟩
        go_wp2_with fail
        go_roundw
        case rel => exact ⟨k + 1, by omega, by go_num, He, bot hbel B1⟩
        case measure => simp [intOf]; omega
      · have He : Hid (r = (k : Int)) := by unfold Hid; rw [heq.out, Hat.out]; rfl
        clear Hat heq
        go_wp2_with fail
        refine (Hcall.out).mono ?_
        rintro e w1 ⟨rfl, B1⟩
        go_wp2_with fail
        go_ret
        exact ⟨ret_int He.out.symm, bot hbel B1⟩
    · have He : Hid (r = -1) := by unfold Hid; rw [heq.out, List.drop_eq_nil_of_le (by have := Hnx.out; omega)]; rfl
      go_wp2_with fail
      go_ret
      exact ⟨ret_int He.out.symm, hbel⟩

theorem enters_find1 : Enters Tryz.prog 39 := enters_of Tryz.func39 (by kernel_rfl) rfl

set_option maxHeartbeats 800000 in
theorem find1_any (d : Dir) (cs : List Value) (pb : Nat) (B : Option Addr) (m e : Nat) (ys : List ByteArray) (w : World) (S T : Nat → Prop) (hd : rDir.holds w S d cs) (hc : w.cell? ⟨pb, 0, none⟩ = some (.slice B m e)) (hy : SlV rStr w T ys (.slice B m e)) :
    Calls Tryz.prog 39 #[.agg cs.toArray, .pointer (some ⟨pb, 0, none⟩)] w fun e w' => e = .returned (.bool (eqB d.path ys)) ∧ Below w.heap.size w w' := by
  obtain ⟨s0, s1, s2, s3, rfl, hp0, _, _, _, _, hp1, hp2, hp3, _⟩ := hd
  obtain ⟨pA, pc, rfl, _, _⟩ := hp0.val
  obtain ⟨pB, pd, rfl, _, _⟩ := hp1.val
  obtain ⟨pC, pe, rfl, _, _⟩ := hp2.val
  obtain ⟨pD, pf, rfl, _, _⟩ := hp3.val
  have hlt : pb < w.heap.size := World.block_lt_of_cell? w _ hc
  have Hc : Hid (∀ o : Obj, Calls Tryz.prog 40 #[.slice pA d.path.length pc, .slice B m e] (w.alloc o) fun e w' => e = .returned (.bool (eqB d.path ys)) ∧ Below (w.alloc o).heap.size (w.alloc o) w') := fun o => strsEq_any _ _ _ _ _ _ _ _ _ _ _ (hp0.alloc o) (hy.alloc o)
  have hc' : ∀ o : Obj, (w.alloc o).cell? ⟨pb, 0, none⟩ = some (.slice B m e) := fun o => below_cell (bal (Below.refl _ _) o) hc hlt
  clear hp0 hp1 hp2 hp3 hy hc
  generalize eqB d.path ys = r at *
  generalize d.path.length = l0 at *
  generalize d.pack.deps.length = l1 at *
  generalize d.pack.peers.length = l2 at *
  generalize d.pack.opts.length = l3 at *
  generalize d.pack.name = nm at *
  generalize d.pack.ver.major = y1 at *
  generalize d.pack.ver.minor = y2 at *
  generalize d.pack.ver.patch = y3 at *
  generalize d.node = nd at *
  go_enter Tryz.func39, Tryz.ntmps39
  go_wp2_with fail
  refine (Hc.out _).mono ?_
  rintro e w1 ⟨rfl, B1⟩
  go_wp2_with fail
  go_ret
  exact ⟨rfl, bnew B1⟩

set_option maxHeartbeats 800000 in
theorem find_any (A B : Option Addr) (n c m d : Nat) (xs : List Dir) (ys : List ByteArray) (w : World) (S T : Nat → Prop) (hx : SlV rDir w S xs (.slice A n c)) (hy : SlV rStr w T ys (.slice B m d)) :
    Calls Tryz.prog 18 #[.agg #[.slice A n c], .slice B m d] w fun e w' => e = .returned (.int .i64 (findI xs ys)) ∧ Below w.heap.size w w' := by
  have Hc : Hid (∀ o t, Calls Tryz.prog 38 #[.slice A n c, .func (.func 39) #[] #[.pointer (some ⟨w.heap.size + 1, 0, none⟩)]] ((w.alloc o).alloc (.cells #[.slice B m d] t)) fun e w' => e = .returned (.int .i64 (findI xs ys)) ∧ Below ((w.alloc o).alloc (.cells #[.slice B m d] t)).heap.size ((w.alloc o).alloc (.cells #[.slice B m d] t)) w') := fun o t => by
    refine indexFunc_any _ _ enters_find1 _ A n c xs _ S ((hx.alloc o).alloc _) (fun W dd cs hW _ hd => find1_any dd cs _ B m d ys W _ T hd ?_ ?_)
    · exact below_cell hW (by simp [go_sem]) (by simp [go_sem])
    · exact ((hy.alloc o).alloc _).belowSize hW
  clear hx hy
  generalize findI xs ys = r at *
  go_enter Tryz.func18, Tryz.ntmps18
  go_wp2_with fail
  refine (Hc.out _ _).mono ?_
  rintro e w1 ⟨rfl, B1⟩
  go_wp2_with fail
  go_ret
  exact ⟨rfl, bnew (bnew B1)⟩
end Go.Proofs.YtminjjdnmpaaoaaGreatDoor
/-
  The document's Find and Parent.
-/
set_option autoImplicit false
set_option relaxedAutoImplicit false
set_option linter.unusedVariables false
set_option linter.unusedSimpArgs false
namespace Go.Proofs.YtminjjdnmpaaoaaGreatDoor
open Go.Rows Go.RowKit Go.Shelf Go.Sort

theorem SlV.take {α : Type} {r : Rp α} {w : World} {S : Nat → Prop} {l : List α} {A : Option Addr} {n c k : Nat} (h : SlV r w S l (.slice A n c)) (hk : k ≤ l.length) : SlV r w S (l.take k) (.slice A k c) := by
  obtain ⟨A', c', h1, h2, h3, h4, h5⟩ := h
  simp only [List.cons.injEq, Value.slice.injEq, and_true] at h1
  obtain ⟨rfl, _, rfl⟩ := h1
  have hl : (l.take k).length = k := by rw [List.length_take]; omega
  refine ⟨A, c, by rw [hl], by omega, h3, h4, fun hn => ?_⟩
  obtain ⟨b, o, hA, hS, hb, hr⟩ := h5 (by omega)
  refine ⟨b, o, hA, hS, hb, fun i x hx => hr i x ?_⟩
  rw [List.getElem?_take] at hx
  split at hx
  · exact hx
  · cases hx

set_option maxHeartbeats 1600000 in
set_option maxRecDepth 100000 in
theorem refFind_any (A B : Option Addr) (n c m d : Nat) (xs : List Dir) (ys : List ByteArray) (w : World) (S T : Nat → Prop) (hx : SlV rDir w S xs (.slice A n c)) (hy : SlV rStr w T ys (.slice B m d)) :
    Calls Tryz.prog 93 #[.agg #[.slice A n c], .slice B m d] w fun e w' => e = .returned (.int .i64 (findI xs ys)) ∧ Below w.heap.size w w' := by
  have hnx := hx.n_eq
  have hcx := hx.cap_le
  unfold maxLen at hcx
  have hn63 : n ≤ 9223372036854775807 := by omega
  have hx' := hx.more (S' := fun b => b < w.heap.size) fun b _ h => h
  have hy' := hy.more (S' := fun b => b < w.heap.size) fun b _ h => h
  have Hend : Hid (findI xs ys = firstGo (fun d => eqB d.path ys) (xs.drop 0) 0) := rfl
  have Hnx := Lib.hid hnx; clear hnx
  clear hcx hx hy
  generalize findI xs ys = r at *
  go_enter Tryz.func93, Tryz.ntmps93
  go_wp2_with fail
  obtain ⟨w0, hw0⟩ : ∃ w0, w0 = w.alloc (.cells #[.slice A n c] 33) := ⟨_, rfl⟩
  have hz : w.heap.size < w0.heap.size := by rw [hw0]; simp [go_sem]
  have hb0 : Below w.heap.size w w0 := by rw [hw0]; exact bal (Below.refl _ _) _
  have a0 : w0.cell? ⟨w.heap.size, 0, none⟩ = some (.slice A n c) := by rw [hw0]; simp [go_sem]
  rw [← hw0]
  clear hw0
  have HB0 := Lib.hid hb0; clear hb0
  go_loopw [5] (fun i wr => ∃ k : Nat, k ≤ n ∧ i = .int .i64 k ∧ Hid (r = firstGo (fun d => eqB d.path ys) (xs.drop k) k) ∧ Below w0.heap.size w0 wr) (fun i _ => n - (intOf i).toNat)
  case atStart => exact ⟨0, Nat.zero_le _, rfl, Hend, Below.refl _ _⟩
  case round =>
    obtain ⟨k, hk, rfl, heq, hbel⟩ := hrel
    have b0 := below_cell hbel a0 hz
    have hbel' := bot HB0.out hbel
    by_cases hlt : k < n
    · have hkx : k < xs.length := by have := Hnx.out; omega
      have hxw := hx'.below hbel' (fun b h => h)
      obtain ⟨b, o, cs, rfl, _, hb1, hh, hcell⟩ := hxw.elem (List.getElem?_eq_getElem hkx)
      have Hat := Lib.hid (firstGo_at (fun d => eqB d.path ys) hkx)
      obtain ⟨s0, s1, s2, s3, rfl, hp0, _, _, _, _, hp1, hp2, hp3, _⟩ := hh
      obtain ⟨pA, pc, rfl, _, _⟩ := hp0.val
      have c0 := hcell 0 _ rfl
      simp only [rDir, Nat.add_zero] at c0
      have Hcall := Lib.hid (refPath_any _ _ _ _ _ _ xs[k].path ys wr _ _ hp0 (hy'.below hbel' (fun b h => h)))
      clear hcell hxw hp0 hp1 hp2 hp3
      have hk0 : (0 : Int) ≤ (k : Int) := by omega
      have hkn : (k : Int) < (n : Int) := by omega
      generalize eqB xs[k].path ys = v at *
      generalize xs[k].path.length = l0 at *
      cases v
      · have He : Hid (r = firstGo (fun d => eqB d.path ys) (xs.drop (k + 1)) (k + 1)) := by unfold Hid; rw [heq.out, Hat.out]; rfl
        clear Hat heq
        go_wp2_with fail
        refine (Hcall.out).mono ?_
        rintro e w1 ⟨rfl, B1⟩
        go_wp2_with fail
        go_roundw
        case rel => exact ⟨k + 1, by omega, by go_num, He, bot hbel B1⟩
        case measure => simp [intOf]; omega
      · have He : Hid (r = (k : Int)) := by unfold Hid; rw [heq.out, Hat.out]; rfl
        clear Hat heq
        go_wp2_with fail
        refine (Hcall.out).mono ?_
        rintro e w1 ⟨rfl, B1⟩
        go_wp2_with fail
        go_ret
        exact ⟨ret_int He.out.symm, bot hbel' B1⟩
    · have He : Hid (r = -1) := by unfold Hid; rw [heq.out, List.drop_eq_nil_of_le (by have := Hnx.out; omega)]; rfl
      go_wp2_with fail
      go_ret
      exact ⟨ret_int He.out.symm, hbel'⟩

/-- the place above a directory that is there and is not the root -/
noncomputable def aboveI (t : List Dir) (p : List ByteArray) : Int := findI t (p.take (p.length - 1))

set_option maxHeartbeats 1600000 in
set_option maxRecDepth 100000 in
theorem refParent_at (A : Option Addr) (n c : Nat) (xs : List Dir) (w : World) (S : Nat → Prop) (k : Nat) (hk : k < xs.length) (hne : xs[k].path ≠ []) (hx : SlV rDir w S xs (.slice A n c)) :
    Calls Tryz.prog 94 #[.agg #[.slice A n c], .int .i64 k] w fun e w' => e = .returned (.int .i64 (aboveI xs xs[k].path)) ∧ Below w.heap.size w w' := by
  have hnx := hx.n_eq
  have hcx := hx.cap_le
  unfold maxLen at hcx
  have hn63 : n ≤ 9223372036854775807 := by omega
  have hx0 := hx
  obtain ⟨b, o, cs, rfl, _, hb1, hh, hcell⟩ := hx.elem (List.getElem?_eq_getElem hk)
  obtain ⟨s0, s1, s2, s3, rfl, hp0, _, _, _, _, hp1, hp2, hp3, _⟩ := hh
  obtain ⟨pA, pc, rfl, hpl, hpm⟩ := hp0.val
  unfold maxLen at hpm
  have c0 := hcell 0 _ rfl
  simp only [rDir, Nat.add_zero] at c0
  obtain ⟨q, hq⟩ : ∃ q, xs[k].path.length = q + 1 := ⟨xs[k].path.length - 1, by have : xs[k].path.length ≠ 0 := fun h => hne (List.eq_nil_of_length_eq_zero h); omega⟩
  have Hcall : Hid (∀ o', ∀ d os, Calls Tryz.prog 93 #[.agg #[.slice (some ⟨b, o, none⟩) n c], .slice pA q pc] (grow (redrawn (w.alloc o') d) os) fun e w'' => e = .returned (.int .i64 (aboveI xs xs[k].path)) ∧ ∃ p : Regrown, w'' = grow (redrawn (w.alloc o') p.d) p.os) := fun o' => by
    have e : aboveI xs xs[k].path = findI xs (xs[k].path.take q) := by unfold aboveI; rw [hq]; rfl
    rw [e]
    exact qcall (w := w.alloc o') (fun W hW => refFind_any _ _ _ _ _ _ xs (xs[k].path.take q) W _ _ ((hx0.alloc o').belowSize hW) (((hp0.take (by omega)).alloc o').belowSize hW))
  clear hcell hx hp0 hp1 hp2 hp3 hx0
  generalize aboveI xs xs[k].path = r at *
  rw [hq] at c0
  have hkn : (k : Int) < (n : Int) := by omega
  have hk0 : (0 : Int) ≤ (k : Int) := by omega
  have hnk : ¬ (n : Int) ≤ (k : Int) := by omega
  have hk9 : ¬ (k : Int) < 0 := by omega
  have hq0 : ((q + 1 : Nat) : Int) ≠ 0 := by omega
  have hqb : (((q + 1 : Nat) : Int) == 0) = false := by simp; omega
  have hw1 : IntKind.i64.wrap ((q : Int) + 1 - 1) = (q : Int) := (IntWalk.i64_in _ ⟨by omega, by omega⟩).trans (by omega)
  have hw2 : IntKind.i64.wrap (q : Int) = (q : Int) := IntWalk.i64_in _ ⟨by omega, by omega⟩
  have hqc : q ≤ pc := by omega
  clear hne hpl hpm hq hcx hnx
  go_enter Tryz.func94, Tryz.ntmps94
  go_wp2_with fail
  have a0 : (w.alloc (.cells #[.slice (some ⟨b, o, none⟩) n c] 33)).cell? ⟨w.heap.size, 0, none⟩ = some (.slice (some ⟨b, o, none⟩) n c) := by simp [go_sem]
  have r_a0 := cell_regrown a0
  refine wp_region_qb (by kernel_rfl) (by kernel_rfl) ?_
  repeat (go_big_quiet_step (first | (with_reducible exact Hcall.out _ _ _)))
  refine wpQuiet_nil ?_
  intro w1 B1
  go_wp2_with fail
  go_ret
  exact ⟨rfl, bnew B1⟩
end Go.Proofs.YtminjjdnmpaaoaaGreatDoor
