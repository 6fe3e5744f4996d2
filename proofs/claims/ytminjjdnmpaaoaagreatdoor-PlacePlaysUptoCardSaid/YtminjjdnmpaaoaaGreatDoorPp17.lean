/-
  tree.Check: may a tree be?
  The document's Alike of trees: walked.
-/
import Derived.Test.YtminjjdnmpaaoaaGreatDoorPp16
set_option autoImplicit false
set_option relaxedAutoImplicit false
set_option linter.unusedVariables false
set_option linter.unusedSimpArgs false
namespace Go.Proofs.YtminjjdnmpaaoaaGreatDoor
open Go.Rows Go.RowKit Go.Shelf Go.Sort

def zeroPack : Pack := ⟨⟨#[]⟩, ⟨0, 0, 0⟩, [], [], []⟩
noncomputable def rootB (d : Dir) : Bool := decide (d.path.length = 0) && (eqB d.pack zeroPack && decide (d.node = 0))
noncomputable def okGo (t : List Dir) : List Dir → Nat → Bool
  | [], _ => true
  | d :: l, k => (bif decide (k = 0) then rootB d else standsB t d k) && okGo t l (k + 1)
noncomputable def checkE (t : List Dir) : Int := if t.length < 1 ∨ 257 < t.length then 42 else bif okGo t t 0 then 0 else 42
theorem okGo_at (t : List Dir) {l : List Dir} {k : Nat} (h : k < l.length) : okGo t (l.drop k) k = ((bif decide (k = 0) then rootB l[k] else standsB t l[k] k) && okGo t (l.drop (k + 1)) (k + 1)) := by
  rw [List.drop_eq_getElem_cons h, okGo]
theorem packV_zero (w : World) (S : Nat → Prop) : PackV w S zeroPack (.agg #[.string ⟨#[]⟩, .int .i64 0, .int .i64 0, .int .i64 0, .slice none 0 0, .slice none 0 0, .slice none 0 0]) :=
  ⟨none, 0, 0, none, 0, 0, none, 0, 0, rfl, Nat.zero_le _, SlV.nil_ _ _ _, SlV.nil_ _ _ _, SlV.nil_ _ _ _⟩

set_option maxHeartbeats 3200000 in
set_option maxRecDepth 100000 in
theorem check_any (A : Option Addr) (n c : Nat) (xs : List Dir) (w : World) (S : Nat → Prop) (ht : Tab w) (hlen : ∀ d ∈ xs, d.path.length * 32 ≤ 140737488355328) (hx : SlV rDir w S xs (.slice A n c)) :
    Calls Tryz.prog 21 #[.agg #[.slice A n c]] w fun e w' => e = .returned (.int .i64 (checkE xs)) ∧ Below w.heap.size w w' := by
  have hnx := hx.n_eq
  have hcx := hx.cap_le
  unfold maxLen at hcx
  have hn63 : n ≤ 9223372036854775807 := by omega
  have HX := Lib.hid (hx.more (S' := fun b => b < w.heap.size) fun b _ h => h)
  have Hst : Hid (∀ (k : Nat) (hk : k < xs.length) W, Below w.heap.size w W → Calls Tryz.prog 45 #[.agg #[.slice A n c], .int .i64 k] W fun e w' => e = .returned (.bool (standsB xs xs[k] k)) ∧ Below W.heap.size W w') := fun k hk W hW => stands_any A n c xs W _ k hk (tab_below ht hW) hlen (hx.belowSize hW)
  by_cases hn1 : n < 1
  · have hni : (n : Int) < 1 := by omega
    have hnk : decide ((n : Int) < 1) = true := decide_eq_true hni
    have He : Hid (checkE xs = 42) := by unfold Hid checkE; rw [if_pos (.inl (by omega))]
    clear hx hcx hnx Hst HX
    generalize checkE xs = R at *
    go_enter Tryz.func21, Tryz.ntmps21
    go_wp2_with fail
    go_ret
    exact ⟨ret_int He.out.symm, bal (Below.refl _ _) _⟩
  by_cases hn2 : 257 < n
  · have hni : ¬ (n : Int) < 1 := by omega
    have hnk : decide ((n : Int) < 1) = false := decide_eq_false hni
    have hmi : (257 : Int) < (n : Int) := by omega
    have hmk : decide ((257 : Int) < (n : Int)) = true := decide_eq_true hmi
    have He : Hid (checkE xs = 42) := by unfold Hid checkE; rw [if_pos (.inr (by omega))]
    clear hx hcx hnx Hst HX
    generalize checkE xs = R at *
    go_enter Tryz.func21, Tryz.ntmps21
    go_wp2_with fail
    go_ret
    exact ⟨ret_int He.out.symm, bal (Below.refl _ _) _⟩
  have hni : ¬ (n : Int) < 1 := by omega
  have hnk : decide ((n : Int) < 1) = false := decide_eq_false hni
  have hmi : ¬ (257 : Int) < (n : Int) := by omega
  have hmk : decide ((257 : Int) < (n : Int)) = false := decide_eq_false hmi
  have HR : Hid (checkE xs = bif okGo xs (xs.drop 0) 0 then 0 else 42) := by unfold Hid checkE; rw [if_neg (by omega)]; rfl
  have Hnx := Lib.hid hnx; clear hnx
  clear hx hcx hlen ht
  generalize checkE xs = R at *
  go_enter Tryz.func21, Tryz.ntmps21
  go_wp2_with fail
  obtain ⟨w0, hw0⟩ : ∃ w0, w0 = w.alloc (.cells #[.slice A n c] 33) := ⟨_, rfl⟩
  have hz : w.heap.size < w0.heap.size := by rw [hw0]; simp [go_sem]
  have hb0 : Below w.heap.size w w0 := by rw [hw0]; exact bal (Below.refl _ _) _
  have a0 : w0.cell? ⟨w.heap.size, 0, none⟩ = some (.slice A n c) := by rw [hw0]; simp [go_sem]
  rw [← hw0]
  clear hw0
  have HB0 := Lib.hid hb0; clear hb0
  go_loopw [19] (fun i wr => ∃ k : Nat, k ≤ n ∧ i = .int .i64 k ∧ Hid (R = bif okGo xs (xs.drop k) k then 0 else 42) ∧ Below w0.heap.size w0 wr) (fun i _ => n - (intOf i).toNat)
  case atStart => exact ⟨0, Nat.zero_le _, rfl, HR, Below.refl _ _⟩
  case round =>
    obtain ⟨k, hk, rfl, heq, hbel⟩ := hrel
    have b0 := below_cell hbel a0 hz
    have hbel' := bot HB0.out hbel
    have hzr : w.heap.size < wr.heap.size := Nat.lt_of_lt_of_le hz hbel.size
    by_cases hlt : k < n
    · have hkx : k < xs.length := by have := Hnx.out; omega
      have hxw := HX.out.below hbel' (fun b h => h)
      obtain ⟨b, oo, cs, rfl, _, hb1, hh, hcell⟩ := hxw.elem (List.getElem?_eq_getElem hkx)
      obtain ⟨pA, pa, pB, pb, pC, pc, pD, pd, rfl, hp, hpk, hI⟩ := dir_cells hh
      have c0 := hcell 0 _ rfl
      have c1 := hcell 1 _ rfl
      have c2 := hcell 2 _ rfl
      have c3 := hcell 3 _ rfl
      have c4 := hcell 4 _ rfl
      have c5 := hcell 5 _ rfl
      have c6 := hcell 6 _ rfl
      have c7 := hcell 7 _ rfl
      have c8 := hcell 8 _ rfl
      simp only [rDir, Nat.add_zero] at c0 c1 c2 c3 c4 c5 c6 c7 c8
      have Hat := Lib.hid (okGo_at xs hkx)
      have Hs : Hid (∀ o : Obj, Calls Tryz.prog 45 #[.agg #[.slice (some ⟨b, oo, none⟩) n c], .int .i64 k] (wr.alloc o) fun e w' => e = .returned (.bool (standsB xs xs[k] k)) ∧ Below (wr.alloc o).heap.size (wr.alloc o) w') := fun o => Hst.out k hkx _ (bal hbel' o)
      have Hsm : Hid (∀ o : Obj, Calls Tryz.prog 44 #[.agg #[.string xs[k].pack.name, .int .i64 xs[k].pack.ver.major, .int .i64 xs[k].pack.ver.minor, .int .i64 xs[k].pack.ver.patch, .slice pB xs[k].pack.deps.length pb, .slice pC xs[k].pack.peers.length pc, .slice pD xs[k].pack.opts.length pd], .agg #[.string ⟨#[]⟩, .int .i64 0, .int .i64 0, .int .i64 0, .slice none 0 0, .slice none 0 0, .slice none 0 0]] (wr.alloc o) fun e w' => e = .returned (.bool (eqB xs[k].pack zeroPack)) ∧ Below (wr.alloc o).heap.size (wr.alloc o) w') := fun o => packSame_any _ _ _ _ _ _ (fun _ => True) (hpk.keep (bal (Below.refl _ _) o)) (packV_zero _ _)
      have Hro : Hid (rootB xs[k] = (decide (xs[k].path.length = 0) && (eqB xs[k].pack zeroPack && decide (xs[k].node = 0)))) := rfl
      clear hcell hxw hp hpk hh hI
      have hk0 : (0 : Int) ≤ (k : Int) := by omega
      have hkn : (k : Int) < (n : Int) := by omega
      generalize standsB xs xs[k] k = sb at *
      generalize rootB xs[k] = rb at *
      generalize eqB xs[k].pack zeroPack = eb at *
      generalize xs[k].path.length = l0 at *
      generalize xs[k].pack.deps.length = l1 at *
      generalize xs[k].pack.peers.length = l2 at *
      generalize xs[k].pack.opts.length = l3 at *
      generalize xs[k].pack.name = nm at *
      generalize xs[k].pack.ver.major = y1 at *
      generalize xs[k].pack.ver.minor = y2 at *
      generalize xs[k].pack.ver.patch = y3 at *
      generalize xs[k].node = nd at *
      have Hno : Hid ((bif decide (k = 0) then rb else sb) = false → R = 42) := fun h => by rw [heq.out, Hat.out, h]; rfl
      have Hyes : Hid ((bif decide (k = 0) then rb else sb) = true → R = bif okGo xs (xs.drop (k + 1)) (k + 1) then 0 else 42) := fun h => by rw [heq.out, Hat.out, h]; rfl
      clear Hat heq
      by_cases hkz : k = 0
      · have hkb : ((k : Int) == 0) = true := by simp [hkz]
        have Hno' : Hid (rb = false → R = 42) := fun h => Hno.out (by rw [decide_eq_true hkz]; exact h)
        have Hyes' : Hid (rb = true → R = bif okGo xs (xs.drop (k + 1)) (k + 1) then 0 else 42) := fun h => Hyes.out (by rw [decide_eq_true hkz]; exact h)
        clear Hno Hyes Hs hkz
        by_cases hl0 : l0 = 0
        case neg =>
          have hzb : ((l0 : Int) == 0) = false := by simp [hl0]
          have He : Hid (R = 42) := Hno'.out (by rw [Hro.out, decide_eq_false hl0]; rfl)
          clear hl0 Hro
          go_wp2_with fail
          go_ret
          exact ⟨ret_int He.out.symm, bal hbel' _⟩
        have hzb : ((l0 : Int) == 0) = true := by simp [hl0]
        have Hro2 : Hid (rb = (eb && decide (nd = 0))) := by unfold Hid; rw [Hro.out, decide_eq_true hl0]; rfl
        clear hl0 Hro
        go_wp2_with fail
        refine (Hsm.out _).mono ?_
        rintro e w1 ⟨rfl, B1⟩
        have B2 := bot (bal hbel' _) B1
        have g8 := below_cell B1 (show (wr.alloc (.cells #[.slice pA l0 pa, .string nm, .int .i64 y1, .int .i64 y2, .int .i64 y3, .slice pB l1 pb, .slice pC l2 pc, .slice pD l3 pd, .int .i64 nd] 54)).cell? ⟨wr.heap.size, 8, none⟩ = some (.int .i64 nd) by simp [go_sem]) (by simp [go_sem])
        have B3 := bot (bal hbel _) B1
        clear B1
        cases eb
        · have He : Hid (R = 42) := Hno'.out (by rw [Hro2.out]; rfl)
          go_wp2_with fail
          go_ret
          exact ⟨ret_int He.out.symm, B2⟩
        by_cases hnd : nd = 0
        · have hdb : (nd == 0) = true := by simp [hnd]
          have He := Lib.hid (Hyes'.out (by rw [Hro2.out, decide_eq_true hnd]; rfl))
          clear hnd
          go_wp2_with fail
          go_roundw
          case rel => exact ⟨k + 1, by omega, by go_num, He, B3⟩
          case measure => simp [intOf]; omega
        · have hdb : (nd == 0) = false := by simp [hnd]
          have He : Hid (R = 42) := Hno'.out (by rw [Hro2.out, decide_eq_false hnd]; rfl)
          clear hnd
          go_wp2_with fail
          go_ret
          exact ⟨ret_int He.out.symm, B2⟩
      · have hkb : ((k : Int) == 0) = false := by simp [hkz]
        have Hno' : Hid (sb = false → R = 42) := fun h => Hno.out (by rw [decide_eq_false hkz]; exact h)
        have Hyes' : Hid (sb = true → R = bif okGo xs (xs.drop (k + 1)) (k + 1) then 0 else 42) := fun h => Hyes.out (by rw [decide_eq_false hkz]; exact h)
        clear Hno Hyes Hsm Hro hkz
        have bo : ∀ o : Obj, (wr.alloc o).cell? ⟨w.heap.size, 0, none⟩ = some (.slice (some ⟨b, oo, none⟩) n c) := fun o => below_cell (bal (Below.refl _ _) o) b0 hzr
        go_wp2_with fail
        refine (Hs.out _).mono ?_
        rintro e w1 ⟨rfl, B1⟩
        have B2 := bot (bal hbel' _) B1
        have B3 := bot (bal hbel _) B1
        clear B1
        cases sb
        · have He : Hid (R = 42) := Hno'.out rfl
          go_wp2_with fail
          go_ret
          exact ⟨ret_int He.out.symm, B2⟩
        · have He := Lib.hid (Hyes'.out rfl)
          go_wp2_with fail
          go_roundw
          case rel => exact ⟨k + 1, by omega, by go_num, He, B3⟩
          case measure => simp [intOf]; omega
    · have He : Hid (R = 0) := by unfold Hid; rw [heq.out, List.drop_eq_nil_of_le (by have := Hnx.out; omega)]; rfl
      go_wp2_with fail
      go_ret
      exact ⟨ret_int He.out.symm, hbel'⟩
end Go.Proofs.YtminjjdnmpaaoaaGreatDoor
/-
  The document's Check: may a tree be?
-/
set_option autoImplicit false
set_option relaxedAutoImplicit false
set_option linter.unusedVariables false
set_option linter.unusedSimpArgs false
namespace Go.Proofs.YtminjjdnmpaaoaaGreatDoor
open Go.Rows Go.RowKit Go.Shelf Go.Sort

set_option maxHeartbeats 3200000 in
set_option maxRecDepth 100000 in
theorem refCheck_any (A : Option Addr) (n c : Nat) (xs : List Dir) (w : World) (S : Nat → Prop) (hlen : ∀ d ∈ xs, d.path.length * 32 ≤ 140737488355328) (hx : SlV rDir w S xs (.slice A n c)) :
    Calls Tryz.prog 27 #[.agg #[.slice A n c]] w fun e w' => e = .returned (.int .i64 (checkE xs)) ∧ Below w.heap.size w w' := by
  have hnx := hx.n_eq
  have hcx := hx.cap_le
  unfold maxLen at hcx
  have hn63 : n ≤ 9223372036854775807 := by omega
  have HX := Lib.hid (hx.more (S' := fun b => b < w.heap.size) fun b _ h => h)
  have Hst : Hid (∀ (k : Nat) (hk : k < xs.length) W, Below w.heap.size w W → Calls Tryz.prog 54 #[.agg #[.slice A n c], .int .i64 k] W fun e w' => e = .returned (.bool (standsB xs xs[k] k)) ∧ Below W.heap.size W w') := fun k hk W hW => refStands_any A n c xs W _ k hk hlen (hx.belowSize hW)
  by_cases hn1 : n < 1
  · have hni : (n : Int) < 1 := by omega
    have hnk : decide ((n : Int) < 1) = true := decide_eq_true hni
    have He : Hid (checkE xs = 42) := by unfold Hid checkE; rw [if_pos (.inl (by omega))]
    clear hx hcx hnx Hst HX
    generalize checkE xs = R at *
    go_enter Tryz.func27, Tryz.ntmps27
    go_wp2_with fail
    go_ret
    exact ⟨ret_int He.out.symm, bal (Below.refl _ _) _⟩
  by_cases hn2 : 257 < n
  · have hni : ¬ (n : Int) < 1 := by omega
    have hnk : decide ((n : Int) < 1) = false := decide_eq_false hni
    have hmi : (257 : Int) < (n : Int) := by omega
    have hmk : decide ((257 : Int) < (n : Int)) = true := decide_eq_true hmi
    have He : Hid (checkE xs = 42) := by unfold Hid checkE; rw [if_pos (.inr (by omega))]
    clear hx hcx hnx Hst HX
    generalize checkE xs = R at *
    go_enter Tryz.func27, Tryz.ntmps27
    go_wp2_with fail
    go_ret
    exact ⟨ret_int He.out.symm, bal (Below.refl _ _) _⟩
  have hni : ¬ (n : Int) < 1 := by omega
  have hnk : decide ((n : Int) < 1) = false := decide_eq_false hni
  have hmi : ¬ (257 : Int) < (n : Int) := by omega
  have hmk : decide ((257 : Int) < (n : Int)) = false := decide_eq_false hmi
  have HR : Hid (checkE xs = bif okGo xs (xs.drop 0) 0 then 0 else 42) := by unfold Hid checkE; rw [if_neg (by omega)]; rfl
  have Hnx := Lib.hid hnx; clear hnx
  clear hx hcx hlen
  generalize checkE xs = R at *
  have h0x : 0 < xs.length := by have := Hnx.out; omega
  obtain ⟨b, oo, cs, rfl, _, hb1, hh, hcell⟩ := HX.out.elem (List.getElem?_eq_getElem h0x)
  obtain ⟨pA, pa, pB, pb, pC, pc, pD, pd, rfl, hp, hpk, hI⟩ := dir_cells hh
  have c0 := hcell 0 _ rfl
  have c1 := hcell 1 _ rfl
  have c2 := hcell 2 _ rfl
  have c3 := hcell 3 _ rfl
  have c4 := hcell 4 _ rfl
  have c5 := hcell 5 _ rfl
  have c6 := hcell 6 _ rfl
  have c7 := hcell 7 _ rfl
  have c8 := hcell 8 _ rfl
  simp only [rDir, Nat.zero_mul, Nat.add_zero] at c0 c1 c2 c3 c4 c5 c6 c7 c8
  have Hsm : Hid (∀ W, Below w.heap.size w W → Calls Tryz.prog 32 #[.agg #[.string xs[0].pack.name, .int .i64 xs[0].pack.ver.major, .int .i64 xs[0].pack.ver.minor, .int .i64 xs[0].pack.ver.patch, .slice pB xs[0].pack.deps.length pb, .slice pC xs[0].pack.peers.length pc, .slice pD xs[0].pack.opts.length pd], .agg #[.string ⟨#[]⟩, .int .i64 0, .int .i64 0, .int .i64 0, .slice none 0 0, .slice none 0 0, .slice none 0 0]] W fun e w' => e = .returned (.bool (eqB xs[0].pack zeroPack)) ∧ Below W.heap.size W w') := fun W hW => refSame_any _ _ _ _ _ _ (fun _ => True) (hpk.keep hW) (packV_zero _ _)
  have Hro : Hid (rootB xs[0] = (decide (xs[0].path.length = 0) && (eqB xs[0].pack zeroPack && decide (xs[0].node = 0)))) := rfl
  have HR1 : Hid (R = bif (rootB xs[0] && okGo xs (xs.drop 1) 1) then 0 else 42) := by unfold Hid; rw [HR.out, okGo_at xs h0x]; rfl
  clear HR hcell hp hpk hh hI
  generalize rootB xs[0] = rb at *
  generalize eqB xs[0].pack zeroPack = eb at *
  generalize xs[0].path.length = l0 at *
  generalize xs[0].pack.deps.length = l1 at *
  generalize xs[0].pack.peers.length = l2 at *
  generalize xs[0].pack.opts.length = l3 at *
  generalize xs[0].pack.name = nm at *
  generalize xs[0].pack.ver.major = y1 at *
  generalize xs[0].pack.ver.minor = y2 at *
  generalize xs[0].pack.ver.patch = y3 at *
  generalize xs[0].node = nd at *
  have hn0 : (0 : Int) < (n : Int) := by omega
  have hn0' : 0 < n := by omega
  have k0 : ∀ o : Obj, (w.alloc o).cell? ⟨b, oo, none⟩ = some (.slice pA l0 pa) := fun o => below_cell (bal (Below.refl _ _) o) c0 hb1
  have k1 : ∀ o : Obj, (w.alloc o).cell? ⟨b, oo + 1, none⟩ = some (.string nm) := fun o => below_cell (bal (Below.refl _ _) o) c1 hb1
  have k2 : ∀ o : Obj, (w.alloc o).cell? ⟨b, oo + 2, none⟩ = some (.int .i64 y1) := fun o => below_cell (bal (Below.refl _ _) o) c2 hb1
  have k3 : ∀ o : Obj, (w.alloc o).cell? ⟨b, oo + 3, none⟩ = some (.int .i64 y2) := fun o => below_cell (bal (Below.refl _ _) o) c3 hb1
  have k4 : ∀ o : Obj, (w.alloc o).cell? ⟨b, oo + 4, none⟩ = some (.int .i64 y3) := fun o => below_cell (bal (Below.refl _ _) o) c4 hb1
  have k5 : ∀ o : Obj, (w.alloc o).cell? ⟨b, oo + 5, none⟩ = some (.slice pB l1 pb) := fun o => below_cell (bal (Below.refl _ _) o) c5 hb1
  have k6 : ∀ o : Obj, (w.alloc o).cell? ⟨b, oo + 6, none⟩ = some (.slice pC l2 pc) := fun o => below_cell (bal (Below.refl _ _) o) c6 hb1
  have k7 : ∀ o : Obj, (w.alloc o).cell? ⟨b, oo + 7, none⟩ = some (.slice pD l3 pd) := fun o => below_cell (bal (Below.refl _ _) o) c7 hb1
  go_enter Tryz.func27, Tryz.ntmps27
  go_wp2_with fail
  obtain ⟨w0, hw0⟩ : ∃ w0, w0 = w.alloc (.cells #[.slice (some ⟨b, oo, none⟩) n c] 33) := ⟨_, rfl⟩
  have hz : w.heap.size < w0.heap.size := by rw [hw0]; simp [go_sem]
  have hb0 : Below w.heap.size w w0 := by rw [hw0]; exact bal (Below.refl _ _) _
  have a0 : w0.cell? ⟨w.heap.size, 0, none⟩ = some (.slice (some ⟨b, oo, none⟩) n c) := by rw [hw0]; simp [go_sem]
  rw [← hw0]
  clear hw0
  have HB0 := Lib.hid hb0; clear hb0
  have HS : Hid (∀ W, Below w0.heap.size w0 W → Below w.heap.size w W) := fun W hW => bot HB0.out hW
  refine (Hsm.out w0 HB0.out).mono ?_
  rintro e w1 ⟨rfl, B1⟩
  have Q1 := Lib.hid B1; clear B1 Hsm k0 k1 k2 k3 k4 k5 k6 k7
  have d0 := below_cell (HS.out _ Q1.out) c0 hb1
  have d8 := below_cell (HS.out _ Q1.out) c8 hb1
  have b0 := below_cell Q1.out a0 hz
  clear c0 c1 c2 c3 c4 c5 c6 c7 c8
  by_cases hl0 : l0 = 0
  case neg =>
    have hzb : ((l0 : Int) != 0) = true := by simp [hl0]
    have He : Hid (R = 42) := by unfold Hid; rw [HR1.out, Hro.out, decide_eq_false hl0]; rfl
    clear hl0 Hro HR1
    go_wp2_with fail
    go_ret
    exact ⟨ret_int He.out.symm, HS.out _ Q1.out⟩
  have hzb : ((l0 : Int) != 0) = false := by simp [hl0]
  have Hro2 : Hid (rb = (eb && decide (nd = 0))) := by unfold Hid; rw [Hro.out, decide_eq_true hl0]; rfl
  clear hl0 Hro
  cases eb
  · have He : Hid (R = 42) := by unfold Hid; rw [HR1.out, Hro2.out]; rfl
    go_wp2_with fail
    go_ret
    exact ⟨ret_int He.out.symm, HS.out _ Q1.out⟩
  by_cases hnd : nd = 0
  case neg =>
    have hdb : (nd != 0) = true := by simp [hnd]
    have He : Hid (R = 42) := by unfold Hid; rw [HR1.out, Hro2.out, decide_eq_false hnd]; rfl
    clear hnd
    go_wp2_with fail
    go_ret
    exact ⟨ret_int He.out.symm, HS.out _ Q1.out⟩
  have hdb : (nd != 0) = false := by simp [hnd]
  have HR2 : Hid (R = bif okGo xs (xs.drop 1) 1 then 0 else 42) := by unfold Hid; rw [HR1.out, Hro2.out, decide_eq_true hnd]; rfl
  clear HR1 Hro2 hnd
  go_wp2_with fail
  clear d0 d8 b0 hzb hdb
  go_loopw [4] (fun i wr => ∃ k : Nat, 1 ≤ k ∧ k ≤ n ∧ i = .int .i64 k ∧ Hid (R = bif okGo xs (xs.drop k) k then 0 else 42) ∧ Below w0.heap.size w0 wr) (fun i _ => n - (intOf i).toNat)
  case atStart => exact ⟨1, Nat.le_refl _, by omega, rfl, HR2, Q1.out⟩
  case round =>
    obtain ⟨k, hk1, hk, rfl, heq, hbel⟩ := hrel
    have b0 := below_cell hbel a0 hz
    have hbel' := bot HB0.out hbel
    by_cases hlt : k < n
    · have hkx : k < xs.length := by have := Hnx.out; omega
      have Hat := Lib.hid (okGo_at xs hkx)
      have Hs := Lib.hid (Hst.out k hkx wr hbel')
      have hk0 : (0 : Int) ≤ (k : Int) := by omega
      have hkn : (k : Int) < (n : Int) := by omega
      generalize standsB xs xs[k] k = sb at *
      have hkz : ¬ k = 0 := by omega
      have Hno' : Hid (sb = false → R = 42) := fun h => by rw [heq.out, Hat.out, decide_eq_false hkz, h]; rfl
      have Hyes' : Hid (sb = true → R = bif okGo xs (xs.drop (k + 1)) (k + 1) then 0 else 42) := fun h => by rw [heq.out, Hat.out, decide_eq_false hkz, h]; rfl
      clear Hat heq hkz
      go_wp2_with fail
      refine Hs.out.mono ?_
      rintro e w2 ⟨rfl, B1⟩
      have B2 := bot hbel' B1
      have B3 := bot hbel B1
      clear B1
      cases sb
      · have He : Hid (R = 42) := Hno'.out rfl
        go_wp2_with fail
        go_ret
        exact ⟨ret_int He.out.symm, B2⟩
      · have He := Lib.hid (Hyes'.out rfl)
        go_wp2_with fail
        go_roundw
        case rel => exact ⟨k + 1, by omega, by omega, by go_num, He, B3⟩
        case measure => simp [intOf]; omega
    · have He : Hid (R = 0) := by unfold Hid; rw [heq.out, List.drop_eq_nil_of_le (by have := Hnx.out; omega)]; rfl
      go_wp2_with fail
      go_ret
      exact ⟨ret_int He.out.symm, hbel'⟩
end Go.Proofs.YtminjjdnmpaaoaaGreatDoor
set_option autoImplicit false
set_option relaxedAutoImplicit false
set_option linter.unusedVariables false
set_option linter.unusedSimpArgs false
namespace Go.Proofs.YtminjjdnmpaaoaaGreatDoor
open Go.Rows Go.RowKit Go.Shelf Go.Sort

theorem eqDir {d e : Dir} (h1 : d.path = e.path) (h2 : d.pack = e.pack) (h3 : d.node = e.node) : d = e := by
  cases d; cases e; simp only at h1 h2 h3; rw [h1, h2, h3]

set_option maxHeartbeats 3200000 in
set_option maxRecDepth 100000 in
theorem alike_any (A B : Option Addr) (n c m e : Nat) (xs ys : List Dir) (w : World) (S T : Nat → Prop) (hx : SlV rDir w S xs (.slice A n c)) (hy : SlV rDir w T ys (.slice B m e)) :
    Calls Tryz.prog 14 #[.agg #[.slice A n c], .agg #[.slice B m e]] w fun e w' => e = .returned (.bool (eqB xs ys)) ∧ Below w.heap.size w w' := by
  have hnx := hx.n_eq
  have hcx := hx.cap_le
  have hny := hy.n_eq
  have hcy := hy.cap_le
  unfold maxLen at hcx hcy
  by_cases hnm : n = m
  case neg =>
    have hb : ((n : Int) != (m : Int)) = true := by simp; omega
    have He : Hid (eqB xs ys = false) := eqB_false (by rintro rfl; omega)
    clear hnx hny hcx hcy hx hy hnm
    generalize eqB xs ys = r at *
    go_enter Tryz.func14, Tryz.ntmps14
    go_wp2_with fail
    go_ret
    exact ⟨ret_bool He.out.symm, bal (bal (Below.refl _ _) _) _⟩
  have hb : ((n : Int) != (m : Int)) = false := by simp [hnm]
  have hn63 : n ≤ 9223372036854775807 := by omega
  have HX := Lib.hid (hx.more (S' := fun b => b < w.heap.size) fun b _ h => h)
  have HY := Lib.hid (hy.more (S' := fun b => b < w.heap.size) fun b _ h => h)
  have Hpos : Hid (xs = ys → eqB xs ys = true) := fun h => eqB_true h
  have Hneg : Hid (xs ≠ ys → eqB xs ys = false) := fun h => eqB_false h
  have Hnx := Lib.hid hnx; clear hnx
  have Hny := Lib.hid hny; clear hny
  have Hnm := Lib.hid hnm; clear hnm
  clear hx hy hcx hcy
  generalize eqB xs ys = R at *
  go_enter Tryz.func14, Tryz.ntmps14
  go_wp2_with fail
  obtain ⟨w0, hw0⟩ : ∃ w0, w0 = (w.alloc (.cells #[.slice A n c] 33)).alloc (.cells #[.slice B m e] 33) := ⟨_, rfl⟩
  have hz : w.heap.size < w0.heap.size := by rw [hw0]; simp [go_sem]
  have hz1 : w.heap.size + 1 < w0.heap.size := by rw [hw0]; simp [go_sem]
  have hb0 : Below w.heap.size w w0 := by rw [hw0]; exact bal (bal (Below.refl _ _) _) _
  have a0 : w0.cell? ⟨w.heap.size, 0, none⟩ = some (.slice A n c) := by rw [hw0]; simp [go_sem]
  have a1 : w0.cell? ⟨w.heap.size + 1, 0, none⟩ = some (.slice B m e) := by rw [hw0]; simp [go_sem]
  rw [← hw0]
  clear hw0
  have HB0 := Lib.hid hb0; clear hb0
  go_loopw [5] (fun i wr => ∃ k : Nat, k ≤ n ∧ i = .int .i64 k ∧ Hid (xs.take k = ys.take k) ∧ Below w0.heap.size w0 wr) (fun i _ => n - (intOf i).toNat)
  case atStart => exact ⟨0, Nat.zero_le _, rfl, by simp [Hid], Below.refl _ _⟩
  case round =>
    obtain ⟨k, hk, rfl, heq, hbel⟩ := hrel
    have b0 := below_cell hbel a0 hz
    have b1 := below_cell hbel a1 hz1
    have hbel' := bot HB0.out hbel
    by_cases hlt : k < n
    case neg =>
      have He : Hid (R = true) := Hpos.out (eq_of_takes heq.out (by have := Hnx.out; omega) (by have := Hny.out; have := Hnm.out; omega))
      go_wp2_with fail
      go_ret
      exact ⟨ret_bool He.out.symm, hbel'⟩
    have hkx : k < xs.length := by have := Hnx.out; omega
    have hky : k < ys.length := by have := Hny.out; have := Hnm.out; omega
    have hkm : k < m := by have := Hnm.out; omega
    obtain ⟨b, oo, cs, rfl, _, hb1, hh, hcell⟩ := (HX.out.below hbel' (fun b h => h)).elem (List.getElem?_eq_getElem hkx)
    obtain ⟨b', oo', cs', rfl, _, hb2, hh', hcell'⟩ := (HY.out.below hbel' (fun b h => h)).elem (List.getElem?_eq_getElem hky)
    obtain ⟨pA, pa, pB, pb, pC, pc, pD, pd, rfl, hp, hpk, hI⟩ := dir_cells hh
    obtain ⟨qA, qa, qB, qb, qC, qc, qD, qd, rfl, hp', hpk', hI'⟩ := dir_cells hh'
    have c0 := hcell 0 _ rfl
    have c1 := hcell 1 _ rfl
    have c2 := hcell 2 _ rfl
    have c3 := hcell 3 _ rfl
    have c4 := hcell 4 _ rfl
    have c5 := hcell 5 _ rfl
    have c6 := hcell 6 _ rfl
    have c7 := hcell 7 _ rfl
    have c8 := hcell 8 _ rfl
    have d0 := hcell' 0 _ rfl
    have d1 := hcell' 1 _ rfl
    have d2 := hcell' 2 _ rfl
    have d3 := hcell' 3 _ rfl
    have d4 := hcell' 4 _ rfl
    have d5 := hcell' 5 _ rfl
    have d6 := hcell' 6 _ rfl
    have d7 := hcell' 7 _ rfl
    have d8 := hcell' 8 _ rfl
    simp only [rDir, Nat.add_zero] at c0 c1 c2 c3 c4 c5 c6 c7 c8 d0 d1 d2 d3 d4 d5 d6 d7 d8
    have Hp := Lib.hid (qcall (w := wr) (fun W hW => refPath_any _ _ _ _ _ _ xs[k].path ys[k].path W _ _ (hp.belowSize hW) (hp'.belowSize hW)))
    have Hs : Hid (∀ w1, Below wr.heap.size wr w1 → ∀ d os, Calls Tryz.prog 32 #[.agg #[.string xs[k].pack.name, .int .i64 xs[k].pack.ver.major, .int .i64 xs[k].pack.ver.minor, .int .i64 xs[k].pack.ver.patch, .slice pB xs[k].pack.deps.length pb, .slice pC xs[k].pack.peers.length pc, .slice pD xs[k].pack.opts.length pd], .agg #[.string ys[k].pack.name, .int .i64 ys[k].pack.ver.major, .int .i64 ys[k].pack.ver.minor, .int .i64 ys[k].pack.ver.patch, .slice qB ys[k].pack.deps.length qb, .slice qC ys[k].pack.peers.length qc, .slice qD ys[k].pack.opts.length qd]] (grow (redrawn w1 d) os) fun e w'' => e = .returned (.bool (eqB xs[k].pack ys[k].pack)) ∧ ∃ p : Regrown, w'' = grow (redrawn w1 p.d) p.os) :=
      fun w1 h1 => qcall (w := w1) (fun W hW => refSame_any _ _ _ _ W _ _ (hpk.keep (bot h1 hW)) (hpk'.keep (bot h1 hW)))
    have Hq1 : Hid (eqB xs[k].path ys[k].path = true → eqB xs[k].pack ys[k].pack = true → xs[k].node = ys[k].node → xs.take (k + 1) = ys.take (k + 1)) := fun h1 h2 h3 => take_next heq.out hkx hky (eqDir (eqB_iff.1 h1) (eqB_iff.1 h2) h3)
    have Hno : Hid (xs[k] ≠ ys[k] → R = false) := fun h => Hneg.out (ne_at hkx hky h)
    have Hq2 : Hid (eqB xs[k].path ys[k].path = false → R = false) := fun h => Hno.out fun e => by rw [e, eqB_true rfl] at h; cases h
    have Hq3 : Hid (eqB xs[k].pack ys[k].pack = false → R = false) := fun h => Hno.out fun e => by rw [e, eqB_true rfl] at h; cases h
    have Hq4 : Hid (xs[k].node ≠ ys[k].node → R = false) := fun h => Hno.out fun e => h (by rw [e])
    clear hcell hcell' hp hp' hpk hpk' hh hh' hI hI' Hno
    have hk0 : (0 : Int) ≤ (k : Int) := by omega
    have hkn : (k : Int) < (n : Int) := by omega
    have hkm' : (k : Int) < (m : Int) := by omega
    generalize eqB xs[k].path ys[k].path = vh at *
    generalize eqB xs[k].pack ys[k].pack = vs at *
    generalize xs[k].path.length = l0 at *
    generalize xs[k].pack.deps.length = l1 at *
    generalize xs[k].pack.peers.length = l2 at *
    generalize xs[k].pack.opts.length = l3 at *
    generalize xs[k].pack.name = nm at *
    generalize xs[k].pack.ver.major = y1 at *
    generalize xs[k].pack.ver.minor = y2 at *
    generalize xs[k].pack.ver.patch = y3 at *
    generalize xs[k].node = nx at *
    generalize ys[k].path.length = m0 at *
    generalize ys[k].pack.deps.length = m1 at *
    generalize ys[k].pack.peers.length = m2 at *
    generalize ys[k].pack.opts.length = m3 at *
    generalize ys[k].pack.name = nn at *
    generalize ys[k].pack.ver.major = z1 at *
    generalize ys[k].pack.ver.minor = z2 at *
    generalize ys[k].pack.ver.patch = z3 at *
    generalize ys[k].node = ny at *
    have r_b0 := cell_regrown b0
    have r_b1 := cell_regrown b1
    have r_c0 := cell_regrown c0
    have r_d0 := cell_regrown d0
    go_wp2_with fail
    refine wp_region_qb (by kernel_rfl) (by kernel_rfl) ?_
    repeat (go_big_quiet_step (first | (with_reducible exact Hp.out _ _)))
    refine wpQuiet_nil ?_
    intro w1 B1
    clear r_b0 r_b1 r_c0 r_d0 c0 d0 Hp
    have hzr : w.heap.size < wr.heap.size := Nat.lt_of_lt_of_le hz hbel.size
    have hzr1 : w.heap.size + 1 < wr.heap.size := Nat.lt_of_lt_of_le hz1 hbel.size
    have e0 := below_cell B1 b0 hzr
    have e1 := below_cell B1 b1 hzr1
    have f1 := below_cell B1 c1 hb1
    have f2 := below_cell B1 c2 hb1
    have f3 := below_cell B1 c3 hb1
    have f4 := below_cell B1 c4 hb1
    have f5 := below_cell B1 c5 hb1
    have f6 := below_cell B1 c6 hb1
    have f7 := below_cell B1 c7 hb1
    have f8 := below_cell B1 c8 hb1
    have g1 := below_cell B1 d1 hb2
    have g2 := below_cell B1 d2 hb2
    have g3 := below_cell B1 d3 hb2
    have g4 := below_cell B1 d4 hb2
    have g5 := below_cell B1 d5 hb2
    have g6 := below_cell B1 d6 hb2
    have g7 := below_cell B1 d7 hb2
    have g8 := below_cell B1 d8 hb2
    have Hs1 := Lib.hid (Hs.out w1 B1)
    have hzw : w.heap.size < w1.heap.size := Nat.lt_of_lt_of_le hzr B1.size
    have hzw1 : w.heap.size + 1 < w1.heap.size := Nat.lt_of_lt_of_le hzr1 B1.size
    have hbw1 : b < w1.heap.size := Nat.lt_of_lt_of_le hb1 B1.size
    have hbw2 : b' < w1.heap.size := Nat.lt_of_lt_of_le hb2 B1.size
    clear b0 b1 c1 c2 c3 c4 c5 c6 c7 c8 d1 d2 d3 d4 d5 d6 d7 d8 Hs
    have r_e0 := cell_regrown e0
    have r_e1 := cell_regrown e1
    have r_f1 := cell_regrown f1
    have r_f2 := cell_regrown f2
    have r_f3 := cell_regrown f3
    have r_f4 := cell_regrown f4
    have r_f5 := cell_regrown f5
    have r_f6 := cell_regrown f6
    have r_f7 := cell_regrown f7
    have r_g1 := cell_regrown g1
    have r_g2 := cell_regrown g2
    have r_g3 := cell_regrown g3
    have r_g4 := cell_regrown g4
    have r_g5 := cell_regrown g5
    have r_g6 := cell_regrown g6
    have r_g7 := cell_regrown g7
    go_wp2_with fail
    refine wp_region_qb (by kernel_rfl) (by kernel_rfl) ?_
    repeat (go_big_quiet_step (first | (with_reducible exact Hs1.out _ _)))
    refine wpQuiet_nil ?_
    intro w2 B2
    have B3 := bot (bot hbel B1) B2
    have h0 := below_cell B2 e0 hzw
    have h1 := below_cell B2 e1 hzw1
    have i8 := below_cell B2 f8 hbw1
    have j8 := below_cell B2 g8 hbw2
    clear r_e0 r_e1 r_f1 r_f2 r_f3 r_f4 r_f5 r_f6 r_f7 r_g1 r_g2 r_g3 r_g4 r_g5 r_g6 r_g7 Hs1 B1 B2 e0 e1 f1 f2 f3 f4 f5 f6 f7 f8 g1 g2 g3 g4 g5 g6 g7 g8
    have r_h0 := cell_regrown h0
    have r_h1 := cell_regrown h1
    have r_i8 := cell_regrown i8
    have r_j8 := cell_regrown j8
    cases vh with
    | false =>
      have He := Lib.hid (Hq2.out rfl)
      clear Hq1 Hq2 Hq3 Hq4
      cases vs
      · go_wp2_with fail
        refine wp_region_qb (by kernel_rfl) (by kernel_rfl) ?_
        repeat (go_big_quiet_step (first | fail))
        refine wpQuiet_nil ?_
        intro w3 B4
        go_wp2_with fail
        go_ret
        exact ⟨ret_bool He.out.symm, bot HB0.out (bot B3 B4)⟩
      · go_wp2_with fail
        refine wp_region_qb (by kernel_rfl) (by kernel_rfl) ?_
        repeat (go_big_quiet_step (first | fail))
        refine wpQuiet_nil ?_
        intro w3 B4
        go_wp2_with fail
        go_ret
        exact ⟨ret_bool He.out.symm, bot HB0.out (bot B3 B4)⟩
    | true =>
    cases vs with
    | false =>
      have He := Lib.hid (Hq3.out rfl)
      clear Hq1 Hq2 Hq3 Hq4
      go_wp2_with fail
      refine wp_region_qb (by kernel_rfl) (by kernel_rfl) ?_
      repeat (go_big_quiet_step (first | fail))
      refine wpQuiet_nil ?_
      intro w3 B4
      go_wp2_with fail
      go_ret
      exact ⟨ret_bool He.out.symm, bot HB0.out (bot B3 B4)⟩
    | true =>
    by_cases hnn : nx = ny
    case neg =>
      have He := Lib.hid (Hq4.out hnn)
      have hbn : (nx != ny) = true := by simp [hnn]
      clear Hq1 Hq2 Hq3 Hq4 hnn
      go_wp2_with fail
      refine wp_region_qb (by kernel_rfl) (by kernel_rfl) ?_
      repeat (go_big_quiet_step (first | fail))
      refine wpQuiet_nil ?_
      intro w3 B4
      go_wp2_with fail
      go_ret
      exact ⟨ret_bool He.out.symm, bot HB0.out (bot B3 B4)⟩
    have He := Lib.hid (Hq1.out rfl rfl hnn)
    have hbn : (nx != ny) = false := by simp [hnn]
    clear Hq1 Hq2 Hq3 Hq4 hnn
    go_wp2_with fail
    refine wp_region_qb (by kernel_rfl) (by kernel_rfl) ?_
    repeat (go_big_quiet_step (first | fail))
    refine wpQuiet_nil ?_
    intro w3 B4
    go_wp2_with fail
    go_roundw
    case rel => exact ⟨k + 1, by omega, by go_num, He, bot B3 B4⟩
    case measure => simp [intOf]; omega
end Go.Proofs.YtminjjdnmpaaoaaGreatDoor
