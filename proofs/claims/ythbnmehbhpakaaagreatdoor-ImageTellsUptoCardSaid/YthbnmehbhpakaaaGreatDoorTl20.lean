/-
  tree.Check: may a tree be?
  What a search finds; what a tree that may be has: the plain laws.
  In a tree that may be each directory but the root stands in just one other one's modules: the plain law.
-/
import Derived.Test.YthbnmehbhpakaaaGreatDoorTl17
import Derived.Lib.Hide
import Derived.Test.YthbnmehbhpakaaaGreatDoorTl19
import Derived.Test.YthbnmehbhpakaaaGreatDoorTl07
set_option autoImplicit false
set_option relaxedAutoImplicit false
set_option linter.unusedVariables false
set_option linter.unusedSimpArgs false
namespace Go.Proofs.YthbnmehbhpakaaaGreatDoor
open Go.Rows Go.RowKit Go.Shelf Go.Sort

def zeroPack : Pack := ⟨⟨#[]⟩, ⟨0, 0, 0⟩, [], [], []⟩
noncomputable def rootB (d : Dir) : Bool := decide (d.path.length = 0) && (eqB d.pack zeroPack && decide (d.node = 0))
noncomputable def okGo (t : List Dir) : List Dir → Nat → Bool
  | [], _ => true
  | d :: l, k => (bif decide (k = 0) then rootB d else standsB t d k) && okGo t l (k + 1)
noncomputable def checkE (t : List Dir) : Int := if t.length < 1 ∨ 257 < t.length then 42 else bif okGo t t 0 then 0 else 42
theorem okGo_at (t : List Dir) {l : List Dir} {k : Nat} (h : k < l.length) : okGo t (l.drop k) k = ((bif decide (k = 0) then rootB l[k] else standsB t l[k] k) && okGo t (l.drop (k + 1)) (k + 1)) := by
  rw [List.drop_eq_getElem_cons h, okGo]
theorem packV_zero (w : World) (S : Nat → Prop) : PackV w S zeroPack (.agg #[.string ⟨#[]⟩, .int .i64 0, .int .i64 0, .int .i64 0, .slice none 0 0, .slice none 0 0, .slice none 0 0]) :=
  ⟨none, 0, 0, none, 0, 0, none, 0, 0, rfl, Nat.zero_le _, SlV.nil_ _ _ _, SlV.nil_ _ _ _, SlV.nil_ _ _ _⟩

set_option maxHeartbeats 3200000 in
set_option maxRecDepth 100000 in
theorem check_any (A : Option Addr) (n c : Nat) (xs : List Dir) (w : World) (S : Nat → Prop) (ht : Tab w) (hlen : ∀ d ∈ xs, d.path.length * 32 ≤ 140737488355328) (hx : SlV rDir w S xs (.slice A n c)) :
    Calls Tryz.prog 103 #[.agg #[.slice A n c]] w fun e w' => e = .returned (.int .i64 (checkE xs)) ∧ Below w.heap.size w w' := by
  have hnx := hx.n_eq
  have hcx := hx.cap_le
  unfold maxLen at hcx
  have hn63 : n ≤ 9223372036854775807 := by omega
  have HX := Lib.hid (hx.more (S' := fun b => b < w.heap.size) fun b _ h => h)
  have Hst : Hid (∀ (k : Nat) (hk : k < xs.length) W, Below w.heap.size w W → Calls Tryz.prog 167 #[.agg #[.slice A n c], .int .i64 k] W fun e w' => e = .returned (.bool (standsB xs xs[k] k)) ∧ Below W.heap.size W w') := fun k hk W hW => stands_any A n c xs W _ k hk (tab_below ht hW) hlen (hx.belowSize hW)
  by_cases hn1 : n < 1
  · have hni : (n : Int) < 1 := by omega
    have hnk : decide ((n : Int) < 1) = true := decide_eq_true hni
    have He : Hid (checkE xs = 42) := by unfold Hid checkE; rw [if_pos (.inl (by omega))]
    clear hx hcx hnx Hst HX
    generalize checkE xs = R at *
    go_enter Tryz.func103, Tryz.ntmps103
    go_wp2_with fail
    go_ret
    exact ⟨ret_int He.out.symm, bal (Below.refl _ _) _⟩
  by_cases hn2 : 257 < n
  · have hni : ¬ (n : Int) < 1 := by omega
    have hnk : decide ((n : Int) < 1) = false := decide_eq_false hni
    have hmi : (257 : Int) < (n : Int) := by omega
    have hmk : decide ((257 : Int) < (n : Int)) = true := decide_eq_true hmi
    have He : Hid (checkE xs = 42) := by unfold Hid checkE; rw [if_pos (.inr (by omega))]
    clear hx hcx hnx Hst HX
    generalize checkE xs = R at *
    go_enter Tryz.func103, Tryz.ntmps103
    go_wp2_with fail
    go_ret
    exact ⟨ret_int He.out.symm, bal (Below.refl _ _) _⟩
  have hni : ¬ (n : Int) < 1 := by omega
  have hnk : decide ((n : Int) < 1) = false := decide_eq_false hni
  have hmi : ¬ (257 : Int) < (n : Int) := by omega
  have hmk : decide ((257 : Int) < (n : Int)) = false := decide_eq_false hmi
  have HR : Hid (checkE xs = bif okGo xs (xs.drop 0) 0 then 0 else 42) := by unfold Hid checkE; rw [if_neg (by omega)]; rfl
  have Hnx := Lib.hid hnx; clear hnx
  clear hx hcx hlen ht
  generalize checkE xs = R at *
  go_enter Tryz.func103, Tryz.ntmps103
  go_wp2_with fail
  obtain ⟨w0, hw0⟩ : ∃ w0, w0 = w.alloc (.cells #[.slice A n c] 30) := ⟨_, rfl⟩
  have hz : w.heap.size < w0.heap.size := by rw [hw0]; simp [go_sem]
  have hb0 : Below w.heap.size w w0 := by rw [hw0]; exact bal (Below.refl _ _) _
  have a0 : w0.cell? ⟨w.heap.size, 0, none⟩ = some (.slice A n c) := by rw [hw0]; simp [go_sem]
  rw [← hw0]
  clear hw0
  have HB0 := Lib.hid hb0; clear hb0
  go_loopw [19] (fun i wr => ∃ k : Nat, k ≤ n ∧ i = .int .i64 k ∧ Hid (R = bif okGo xs (xs.drop k) k then 0 else 42) ∧ Below w0.heap.size w0 wr) (fun i _ => n - (intOf i).toNat)
  case atStart => exact ⟨0, Nat.zero_le _, rfl, HR, Below.refl _ _⟩
  case round =>
    obtain ⟨k, hk, rfl, heq, hbel⟩ := hrel
    have b0 := below_cell hbel a0 hz
    have hbel' := bot HB0.out hbel
    have hzr : w.heap.size < wr.heap.size := Nat.lt_of_lt_of_le hz hbel.size
    by_cases hlt : k < n
    · have hkx : k < xs.length := by have := Hnx.out; omega
      have hxw := HX.out.below hbel' (fun b h => h)
      obtain ⟨b, oo, cs, rfl, _, hb1, hh, hcell⟩ := hxw.elem (List.getElem?_eq_getElem hkx)
      obtain ⟨pA, pa, pB, pb, pC, pc, pD, pd, rfl, hp, hpk, hI⟩ := dir_cells hh
      have c0 := hcell 0 _ rfl
      have c1 := hcell 1 _ rfl
      have c2 := hcell 2 _ rfl
      have c3 := hcell 3 _ rfl
      have c4 := hcell 4 _ rfl
      have c5 := hcell 5 _ rfl
      have c6 := hcell 6 _ rfl
      have c7 := hcell 7 _ rfl
      have c8 := hcell 8 _ rfl
      simp only [rDir, Nat.add_zero] at c0 c1 c2 c3 c4 c5 c6 c7 c8
      have Hat := Lib.hid (okGo_at xs hkx)
      have Hs : Hid (∀ o : Obj, Calls Tryz.prog 167 #[.agg #[.slice (some ⟨b, oo, none⟩) n c], .int .i64 k] (wr.alloc o) fun e w' => e = .returned (.bool (standsB xs xs[k] k)) ∧ Below (wr.alloc o).heap.size (wr.alloc o) w') := fun o => Hst.out k hkx _ (bal hbel' o)
      have Hsm : Hid (∀ o : Obj, Calls Tryz.prog 132 #[.agg #[.string xs[k].pack.name, .int .i64 xs[k].pack.ver.major, .int .i64 xs[k].pack.ver.minor, .int .i64 xs[k].pack.ver.patch, .slice pB xs[k].pack.deps.length pb, .slice pC xs[k].pack.peers.length pc, .slice pD xs[k].pack.opts.length pd], .agg #[.string ⟨#[]⟩, .int .i64 0, .int .i64 0, .int .i64 0, .slice none 0 0, .slice none 0 0, .slice none 0 0]] (wr.alloc o) fun e w' => e = .returned (.bool (eqB xs[k].pack zeroPack)) ∧ Below (wr.alloc o).heap.size (wr.alloc o) w') := fun o => packSame_any _ _ _ _ _ _ (fun _ => True) (hpk.keep (bal (Below.refl _ _) o)) (packV_zero _ _)
      have Hro : Hid (rootB xs[k] = (decide (xs[k].path.length = 0) && (eqB xs[k].pack zeroPack && decide (xs[k].node = 0)))) := rfl
      clear hcell hxw hp hpk hh hI
      have hk0 : (0 : Int) ≤ (k : Int) := by omega
      have hkn : (k : Int) < (n : Int) := by omega
      generalize standsB xs xs[k] k = sb at *
      generalize rootB xs[k] = rb at *
      generalize eqB xs[k].pack zeroPack = eb at *
      generalize xs[k].path.length = l0 at *
      generalize xs[k].pack.deps.length = l1 at *
      generalize xs[k].pack.peers.length = l2 at *
      generalize xs[k].pack.opts.length = l3 at *
      generalize xs[k].pack.name = nm at *
      generalize xs[k].pack.ver.major = y1 at *
      generalize xs[k].pack.ver.minor = y2 at *
      generalize xs[k].pack.ver.patch = y3 at *
      generalize xs[k].node = nd at *
      have Hno : Hid ((bif decide (k = 0) then rb else sb) = false → R = 42) := fun h => by rw [heq.out, Hat.out, h]; rfl
      have Hyes : Hid ((bif decide (k = 0) then rb else sb) = true → R = bif okGo xs (xs.drop (k + 1)) (k + 1) then 0 else 42) := fun h => by rw [heq.out, Hat.out, h]; rfl
      clear Hat heq
      by_cases hkz : k = 0
      · have hkb : ((k : Int) == 0) = true := by simp [hkz]
        have Hno' : Hid (rb = false → R = 42) := fun h => Hno.out (by rw [decide_eq_true hkz]; exact h)
        have Hyes' : Hid (rb = true → R = bif okGo xs (xs.drop (k + 1)) (k + 1) then 0 else 42) := fun h => Hyes.out (by rw [decide_eq_true hkz]; exact h)
        clear Hno Hyes Hs hkz
        by_cases hl0 : l0 = 0
        case neg =>
          have hzb : ((l0 : Int) == 0) = false := by simp [hl0]
          have He : Hid (R = 42) := Hno'.out (by rw [Hro.out, decide_eq_false hl0]; rfl)
          clear hl0 Hro
          go_wp2_with fail
          go_ret
          exact ⟨ret_int He.out.symm, bal hbel' _⟩
        have hzb : ((l0 : Int) == 0) = true := by simp [hl0]
        have Hro2 : Hid (rb = (eb && decide (nd = 0))) := by unfold Hid; rw [Hro.out, decide_eq_true hl0]; rfl
        clear hl0 Hro
        go_wp2_with fail
        refine (Hsm.out _).mono ?_
        rintro e w1 ⟨rfl, B1⟩
        have B2 := bot (bal hbel' _) B1
        have g8 := below_cell B1 (show (wr.alloc (.cells #[.slice pA l0 pa, .string nm, .int .i64 y1, .int .i64 y2, .int .i64 y3, .slice pB l1 pb, .slice pC l2 pc, .slice pD l3 pd, .int .i64 nd] 59)).cell? ⟨wr.heap.size, 8, none⟩ = some (.int .i64 nd) by simp [go_sem]) (by simp [go_sem])
        have B3 := bot (bal hbel _) B1
        clear B1
        cases eb
        · have He : Hid (R = 42) := Hno'.out (by rw [Hro2.out]; rfl)
          go_wp2_with fail
          go_ret
          exact ⟨ret_int He.out.symm, B2⟩
        by_cases hnd : nd = 0
        · have hdb : (nd == 0) = true := by simp [hnd]
          have He := Lib.hid (Hyes'.out (by rw [Hro2.out, decide_eq_true hnd]; rfl))
          clear hnd
          go_wp2_with fail
          go_roundw
          case rel => exact ⟨k + 1, by omega, by go_num, He, B3⟩
          case measure => simp [intOf]; omega
        · have hdb : (nd == 0) = false := by simp [hnd]
          have He : Hid (R = 42) := Hno'.out (by rw [Hro2.out, decide_eq_false hnd]; rfl)
          clear hnd
          go_wp2_with fail
          go_ret
          exact ⟨ret_int He.out.symm, B2⟩
      · have hkb : ((k : Int) == 0) = false := by simp [hkz]
        have Hno' : Hid (sb = false → R = 42) := fun h => Hno.out (by rw [decide_eq_false hkz]; exact h)
        have Hyes' : Hid (sb = true → R = bif okGo xs (xs.drop (k + 1)) (k + 1) then 0 else 42) := fun h => Hyes.out (by rw [decide_eq_false hkz]; exact h)
        clear Hno Hyes Hsm Hro hkz
        have bo : ∀ o : Obj, (wr.alloc o).cell? ⟨w.heap.size, 0, none⟩ = some (.slice (some ⟨b, oo, none⟩) n c) := fun o => below_cell (bal (Below.refl _ _) o) b0 hzr
        go_wp2_with fail
        refine (Hs.out _).mono ?_
        rintro e w1 ⟨rfl, B1⟩
        have B2 := bot (bal hbel' _) B1
        have B3 := bot (bal hbel _) B1
        clear B1
        cases sb
        · have He : Hid (R = 42) := Hno'.out rfl
          go_wp2_with fail
          go_ret
          exact ⟨ret_int He.out.symm, B2⟩
        · have He := Lib.hid (Hyes'.out rfl)
          go_wp2_with fail
          go_roundw
          case rel => exact ⟨k + 1, by omega, by go_num, He, B3⟩
          case measure => simp [intOf]; omega
    · have He : Hid (R = 0) := by unfold Hid; rw [heq.out, List.drop_eq_nil_of_le (by have := Hnx.out; omega)]; rfl
      go_wp2_with fail
      go_ret
      exact ⟨ret_int He.out.symm, hbel'⟩
end Go.Proofs.YthbnmehbhpakaaaGreatDoor
/-
  The document's Check: may a tree be?
-/
set_option autoImplicit false
set_option relaxedAutoImplicit false
set_option linter.unusedVariables false
set_option linter.unusedSimpArgs false
namespace Go.Proofs.YthbnmehbhpakaaaGreatDoor
open Go.Rows Go.RowKit Go.Shelf Go.Sort

set_option maxHeartbeats 3200000 in
set_option maxRecDepth 100000 in
theorem refCheck_any (A : Option Addr) (n c : Nat) (xs : List Dir) (w : World) (S : Nat → Prop) (hlen : ∀ d ∈ xs, d.path.length * 32 ≤ 140737488355328) (hx : SlV rDir w S xs (.slice A n c)) :
    Calls Tryz.prog 115 #[.agg #[.slice A n c]] w fun e w' => e = .returned (.int .i64 (checkE xs)) ∧ Below w.heap.size w w' := by
  have hnx := hx.n_eq
  have hcx := hx.cap_le
  unfold maxLen at hcx
  have hn63 : n ≤ 9223372036854775807 := by omega
  have HX := Lib.hid (hx.more (S' := fun b => b < w.heap.size) fun b _ h => h)
  have Hst : Hid (∀ (k : Nat) (hk : k < xs.length) W, Below w.heap.size w W → Calls Tryz.prog 172 #[.agg #[.slice A n c], .int .i64 k] W fun e w' => e = .returned (.bool (standsB xs xs[k] k)) ∧ Below W.heap.size W w') := fun k hk W hW => refStands_any A n c xs W _ k hk hlen (hx.belowSize hW)
  by_cases hn1 : n < 1
  · have hni : (n : Int) < 1 := by omega
    have hnk : decide ((n : Int) < 1) = true := decide_eq_true hni
    have He : Hid (checkE xs = 42) := by unfold Hid checkE; rw [if_pos (.inl (by omega))]
    clear hx hcx hnx Hst HX
    generalize checkE xs = R at *
    go_enter Tryz.func115, Tryz.ntmps115
    go_wp2_with fail
    go_ret
    exact ⟨ret_int He.out.symm, bal (Below.refl _ _) _⟩
  by_cases hn2 : 257 < n
  · have hni : ¬ (n : Int) < 1 := by omega
    have hnk : decide ((n : Int) < 1) = false := decide_eq_false hni
    have hmi : (257 : Int) < (n : Int) := by omega
    have hmk : decide ((257 : Int) < (n : Int)) = true := decide_eq_true hmi
    have He : Hid (checkE xs = 42) := by unfold Hid checkE; rw [if_pos (.inr (by omega))]
    clear hx hcx hnx Hst HX
    generalize checkE xs = R at *
    go_enter Tryz.func115, Tryz.ntmps115
    go_wp2_with fail
    go_ret
    exact ⟨ret_int He.out.symm, bal (Below.refl _ _) _⟩
  have hni : ¬ (n : Int) < 1 := by omega
  have hnk : decide ((n : Int) < 1) = false := decide_eq_false hni
  have hmi : ¬ (257 : Int) < (n : Int) := by omega
  have hmk : decide ((257 : Int) < (n : Int)) = false := decide_eq_false hmi
  have HR : Hid (checkE xs = bif okGo xs (xs.drop 0) 0 then 0 else 42) := by unfold Hid checkE; rw [if_neg (by omega)]; rfl
  have Hnx := Lib.hid hnx; clear hnx
  clear hx hcx hlen
  generalize checkE xs = R at *
  have h0x : 0 < xs.length := by have := Hnx.out; omega
  obtain ⟨b, oo, cs, rfl, _, hb1, hh, hcell⟩ := HX.out.elem (List.getElem?_eq_getElem h0x)
  obtain ⟨pA, pa, pB, pb, pC, pc, pD, pd, rfl, hp, hpk, hI⟩ := dir_cells hh
  have c0 := hcell 0 _ rfl
  have c1 := hcell 1 _ rfl
  have c2 := hcell 2 _ rfl
  have c3 := hcell 3 _ rfl
  have c4 := hcell 4 _ rfl
  have c5 := hcell 5 _ rfl
  have c6 := hcell 6 _ rfl
  have c7 := hcell 7 _ rfl
  have c8 := hcell 8 _ rfl
  simp only [rDir, Nat.zero_mul, Nat.add_zero] at c0 c1 c2 c3 c4 c5 c6 c7 c8
  have Hsm : Hid (∀ W, Below w.heap.size w W → Calls Tryz.prog 55 #[.agg #[.string xs[0].pack.name, .int .i64 xs[0].pack.ver.major, .int .i64 xs[0].pack.ver.minor, .int .i64 xs[0].pack.ver.patch, .slice pB xs[0].pack.deps.length pb, .slice pC xs[0].pack.peers.length pc, .slice pD xs[0].pack.opts.length pd], .agg #[.string ⟨#[]⟩, .int .i64 0, .int .i64 0, .int .i64 0, .slice none 0 0, .slice none 0 0, .slice none 0 0]] W fun e w' => e = .returned (.bool (eqB xs[0].pack zeroPack)) ∧ Below W.heap.size W w') := fun W hW => refSame_any _ _ _ _ _ _ (fun _ => True) (hpk.keep hW) (packV_zero _ _)
  have Hro : Hid (rootB xs[0] = (decide (xs[0].path.length = 0) && (eqB xs[0].pack zeroPack && decide (xs[0].node = 0)))) := rfl
  have HR1 : Hid (R = bif (rootB xs[0] && okGo xs (xs.drop 1) 1) then 0 else 42) := by unfold Hid; rw [HR.out, okGo_at xs h0x]; rfl
  clear HR hcell hp hpk hh hI
  generalize rootB xs[0] = rb at *
  generalize eqB xs[0].pack zeroPack = eb at *
  generalize xs[0].path.length = l0 at *
  generalize xs[0].pack.deps.length = l1 at *
  generalize xs[0].pack.peers.length = l2 at *
  generalize xs[0].pack.opts.length = l3 at *
  generalize xs[0].pack.name = nm at *
  generalize xs[0].pack.ver.major = y1 at *
  generalize xs[0].pack.ver.minor = y2 at *
  generalize xs[0].pack.ver.patch = y3 at *
  generalize xs[0].node = nd at *
  have hn0 : (0 : Int) < (n : Int) := by omega
  have hn0' : 0 < n := by omega
  have k0 : ∀ o : Obj, (w.alloc o).cell? ⟨b, oo, none⟩ = some (.slice pA l0 pa) := fun o => below_cell (bal (Below.refl _ _) o) c0 hb1
  have k1 : ∀ o : Obj, (w.alloc o).cell? ⟨b, oo + 1, none⟩ = some (.string nm) := fun o => below_cell (bal (Below.refl _ _) o) c1 hb1
  have k2 : ∀ o : Obj, (w.alloc o).cell? ⟨b, oo + 2, none⟩ = some (.int .i64 y1) := fun o => below_cell (bal (Below.refl _ _) o) c2 hb1
  have k3 : ∀ o : Obj, (w.alloc o).cell? ⟨b, oo + 3, none⟩ = some (.int .i64 y2) := fun o => below_cell (bal (Below.refl _ _) o) c3 hb1
  have k4 : ∀ o : Obj, (w.alloc o).cell? ⟨b, oo + 4, none⟩ = some (.int .i64 y3) := fun o => below_cell (bal (Below.refl _ _) o) c4 hb1
  have k5 : ∀ o : Obj, (w.alloc o).cell? ⟨b, oo + 5, none⟩ = some (.slice pB l1 pb) := fun o => below_cell (bal (Below.refl _ _) o) c5 hb1
  have k6 : ∀ o : Obj, (w.alloc o).cell? ⟨b, oo + 6, none⟩ = some (.slice pC l2 pc) := fun o => below_cell (bal (Below.refl _ _) o) c6 hb1
  have k7 : ∀ o : Obj, (w.alloc o).cell? ⟨b, oo + 7, none⟩ = some (.slice pD l3 pd) := fun o => below_cell (bal (Below.refl _ _) o) c7 hb1
  go_enter Tryz.func115, Tryz.ntmps115
  go_wp2_with fail
  obtain ⟨w0, hw0⟩ : ∃ w0, w0 = w.alloc (.cells #[.slice (some ⟨b, oo, none⟩) n c] 30) := ⟨_, rfl⟩
  have hz : w.heap.size < w0.heap.size := by rw [hw0]; simp [go_sem]
  have hb0 : Below w.heap.size w w0 := by rw [hw0]; exact bal (Below.refl _ _) _
  have a0 : w0.cell? ⟨w.heap.size, 0, none⟩ = some (.slice (some ⟨b, oo, none⟩) n c) := by rw [hw0]; simp [go_sem]
  rw [← hw0]
  clear hw0
  have HB0 := Lib.hid hb0; clear hb0
  have HS : Hid (∀ W, Below w0.heap.size w0 W → Below w.heap.size w W) := fun W hW => bot HB0.out hW
  refine (Hsm.out w0 HB0.out).mono ?_
  rintro e w1 ⟨rfl, B1⟩
  have Q1 := Lib.hid B1; clear B1 Hsm k0 k1 k2 k3 k4 k5 k6 k7
  have d0 := below_cell (HS.out _ Q1.out) c0 hb1
  have d8 := below_cell (HS.out _ Q1.out) c8 hb1
  have b0 := below_cell Q1.out a0 hz
  clear c0 c1 c2 c3 c4 c5 c6 c7 c8
  by_cases hl0 : l0 = 0
  case neg =>
    have hzb : ((l0 : Int) != 0) = true := by simp [hl0]
    have He : Hid (R = 42) := by unfold Hid; rw [HR1.out, Hro.out, decide_eq_false hl0]; rfl
    clear hl0 Hro HR1
    go_wp2_with fail
    go_ret
    exact ⟨ret_int He.out.symm, HS.out _ Q1.out⟩
  have hzb : ((l0 : Int) != 0) = false := by simp [hl0]
  have Hro2 : Hid (rb = (eb && decide (nd = 0))) := by unfold Hid; rw [Hro.out, decide_eq_true hl0]; rfl
  clear hl0 Hro
  cases eb
  · have He : Hid (R = 42) := by unfold Hid; rw [HR1.out, Hro2.out]; rfl
    go_wp2_with fail
    go_ret
    exact ⟨ret_int He.out.symm, HS.out _ Q1.out⟩
  by_cases hnd : nd = 0
  case neg =>
    have hdb : (nd != 0) = true := by simp [hnd]
    have He : Hid (R = 42) := by unfold Hid; rw [HR1.out, Hro2.out, decide_eq_false hnd]; rfl
    clear hnd
    go_wp2_with fail
    go_ret
    exact ⟨ret_int He.out.symm, HS.out _ Q1.out⟩
  have hdb : (nd != 0) = false := by simp [hnd]
  have HR2 : Hid (R = bif okGo xs (xs.drop 1) 1 then 0 else 42) := by unfold Hid; rw [HR1.out, Hro2.out, decide_eq_true hnd]; rfl
  clear HR1 Hro2 hnd
  go_wp2_with fail
  clear d0 d8 b0 hzb hdb
  go_loopw [4] (fun i wr => ∃ k : Nat, 1 ≤ k ∧ k ≤ n ∧ i = .int .i64 k ∧ Hid (R = bif okGo xs (xs.drop k) k then 0 else 42) ∧ Below w0.heap.size w0 wr) (fun i _ => n - (intOf i).toNat)
  case atStart => exact ⟨1, Nat.le_refl _, by omega, rfl, HR2, Q1.out⟩
  case round =>
    obtain ⟨k, hk1, hk, rfl, heq, hbel⟩ := hrel
    have b0 := below_cell hbel a0 hz
    have hbel' := bot HB0.out hbel
    by_cases hlt : k < n
    · have hkx : k < xs.length := by have := Hnx.out; omega
      have Hat := Lib.hid (okGo_at xs hkx)
      have Hs := Lib.hid (Hst.out k hkx wr hbel')
      have hk0 : (0 : Int) ≤ (k : Int) := by omega
      have hkn : (k : Int) < (n : Int) := by omega
      generalize standsB xs xs[k] k = sb at *
      have hkz : ¬ k = 0 := by omega
      have Hno' : Hid (sb = false → R = 42) := fun h => by rw [heq.out, Hat.out, decide_eq_false hkz, h]; rfl
      have Hyes' : Hid (sb = true → R = bif okGo xs (xs.drop (k + 1)) (k + 1) then 0 else 42) := fun h => by rw [heq.out, Hat.out, decide_eq_false hkz, h]; rfl
      clear Hat heq hkz
      go_wp2_with fail
      refine Hs.out.mono ?_
      rintro e w2 ⟨rfl, B1⟩
      have B2 := bot hbel' B1
      have B3 := bot hbel B1
      clear B1
      cases sb
      · have He : Hid (R = 42) := Hno'.out rfl
        go_wp2_with fail
        go_ret
        exact ⟨ret_int He.out.symm, B2⟩
      · have He := Lib.hid (Hyes'.out rfl)
        go_wp2_with fail
        go_roundw
        case rel => exact ⟨k + 1, by omega, by omega, by go_num, He, B3⟩
        case measure => simp [intOf]; omega
    · have He : Hid (R = 0) := by unfold Hid; rw [heq.out, List.drop_eq_nil_of_le (by have := Hnx.out; omega)]; rfl
      go_wp2_with fail
      go_ret
      exact ⟨ret_int He.out.symm, hbel'⟩
end Go.Proofs.YthbnmehbhpakaaaGreatDoor
set_option autoImplicit false
set_option relaxedAutoImplicit false
set_option linter.unusedVariables false
set_option linter.unusedSimpArgs false
namespace Go.Proofs.YthbnmehbhpakaaaGreatDoor
open Go.Rows Go.RowKit Go.Shelf Go.Sort

theorem firstGo_sound (q : Dir → Bool) : ∀ (t : List Dir) (k j : Nat), firstGo q t k = (j : Int) → ∃ i, ∃ h : i < t.length, j = k + i ∧ q t[i] = true := by
  intro t
  induction t with
  | nil => intro k j h; rw [firstGo] at h; omega
  | cons d t ih =>
    intro k j h
    rw [firstGo] at h
    cases hq : q d
    · rw [hq] at h
      obtain ⟨i, hi, e, hqi⟩ := ih (k + 1) j h
      exact ⟨i + 1, by simpa using hi, by omega, by simpa using hqi⟩
    · rw [hq] at h
      refine ⟨0, by simp, ?_, by simpa using hq⟩
      have : (k : Int) = (j : Int) := h
      omega
theorem findI_sound {t : List Dir} {p : List ByteArray} {j : Nat} (h : findI t p = (j : Int)) : ∃ hj : j < t.length, t[j].path = p := by
  unfold findI firstI at h
  obtain ⟨i, hi, e, hq⟩ := firstGo_sound _ t 0 j h
  obtain rfl : i = j := by omega
  refine ⟨hi, ?_⟩
  by_cases e : t[i].path = p
  · exact e
  · rw [eqB_false e] at hq; cases hq
theorem okGo_stands (t : List Dir) : ∀ (l : List Dir) (k : Nat), okGo t l k = true → ∀ j (h : j < l.length), k + j ≠ 0 → standsB t l[j] (k + j) = true := by
  intro l
  induction l with
  | nil => intro k _ j h; simp at h
  | cons d l ih =>
    intro k hk j h h0
    rw [okGo, Bool.and_eq_true] at hk
    cases j with
    | zero =>
      have hd : decide (k = 0) = false := decide_eq_false (by omega)
      rw [hd] at hk
      exact hk.1
    | succ j =>
      have := ih (k + 1) hk.2 j (by simpa using h) (by omega)
      rw [show k + (j + 1) = k + 1 + j by omega]
      simpa using this
theorem okGo_root {t : List Dir} {d : Dir} {l : List Dir} (h : okGo t (d :: l) 0 = true) : d.path = [] := by
  rw [okGo, Bool.and_eq_true] at h
  have h1 : rootB d = true := h.1
  unfold rootB at h1
  simp only [Bool.and_eq_true, decide_eq_true_eq] at h1
  exact List.eq_nil_of_length_eq_zero h1.1
theorem checkE_ok {t : List Dir} (h : checkE t = 0) : okGo t t 0 = true := by
  unfold checkE at h
  split at h
  · exact absurd h (by decide)
  · cases hk : okGo t t 0
    · rw [hk] at h; exact absurd h (by decide)
    · rfl
theorem stands_of {t : List Dir} (h : checkE t = 0) {i : Nat} (hi : i < t.length) (h1 : 1 ≤ i) :
    t[i].path ≠ [] ∧ findI t t[i].path = (i : Int) ∧ nameB (lastN t[i].path) = true := by
  have := okGo_stands t t 0 (checkE_ok h) i hi (by omega)
  rw [Nat.zero_add] at this
  unfold standsB at this
  simp only [Bool.and_eq_true, decide_eq_true_eq] at this
  obtain ⟨a1, a2, a3, a4, a5, a6, a7, a8, a9⟩ := this
  refine ⟨fun e => a1 (by rw [e]; rfl), a5, ?_⟩
  rw [← a9]
  unfold packB at a8
  simp only [Bool.and_eq_true] at a8
  exact a8.1
theorem root_of {t : List Dir} (h : checkE t = 0) (h0 : 0 < t.length) : t[0].path = [] := by
  have := checkE_ok h
  match t, h0, this with
  | d :: l, _, h' => exact okGo_root h'
end Go.Proofs.YthbnmehbhpakaaaGreatDoor
set_option autoImplicit false
set_option relaxedAutoImplicit false
set_option linter.unusedVariables false
set_option linter.unusedSimpArgs false
namespace Go.Proofs.YthbnmehbhpakaaaGreatDoor
open Go.Rows Go.RowKit Go.Shelf Go.Sort

theorem stands_above {t : List Dir} (h : checkE t = 0) {i : Nat} (hi : i < t.length) (h1 : 1 ≤ i) : 0 ≤ aboveI t t[i].path ∧ aboveI t t[i].path < (i : Int) := by
  have := okGo_stands t t 0 (checkE_ok h) i hi (by omega)
  rw [Nat.zero_add] at this
  unfold standsB at this
  simp only [Bool.and_eq_true, decide_eq_true_eq] at this
  exact ⟨this.2.2.2.2.2.1, this.2.2.2.2.2.2.1⟩
theorem findI_root {t : List Dir} (h : checkE t = 0) (h0 : 0 < t.length) : findI t [] = 0 := by
  have hr := root_of h h0
  match t, h0, hr with
  | d :: l, _, hr =>
    have hr : d.path = [] := hr
    unfold findI firstI
    rw [firstGo, hr, eqB_true rfl]; rfl
theorem findI_self {t : List Dir} (h : checkE t = 0) {i : Nat} (hi : i < t.length) : findI t t[i].path = (i : Int) := by
  rcases Nat.eq_zero_or_pos i with h0 | h0
  · subst h0; rw [root_of h hi]; exact findI_root h hi
  · exact (stands_of h hi h0).2.1
theorem aboveI_take (t : List Dir) {p : List ByteArray} {q : Nat} (h : p.length = q + 1) : aboveI t p = findI t (p.take q) := by
  unfold aboveI; rw [h]; rfl
/-- what is inside: those above which the directory stands -/
theorem inside_mem {t : List Dir} (h : checkE t = 0) {j y : Nat} (hj : j < t.length) : y ∈ insideL t j ↔ ∃ hy : y < t.length, 1 ≤ y ∧ aboveI t t[y].path = (j : Int) := by
  unfold insideL
  rw [List.getElem?_eq_getElem hj]
  show y ∈ insR (nmL t) (insQ t t[j].path) t.length ↔ _
  constructor
  · intro hm
    obtain ⟨hy, hq⟩ := insR_mem hm
    rw [insQ_at hy, Bool.and_eq_true, decide_eq_true_eq] at hq
    obtain ⟨h1, h2⟩ := hq
    have h2 := eqB_of h2
    refine ⟨hy, ?_, ?_⟩
    · rcases Nat.eq_zero_or_pos y with h0 | h0
      · subst h0; rw [root_of h hy] at h1; simp at h1
      · exact h0
    · rw [aboveI_take t h1, h2, findI_self h hj]
  · rintro ⟨hy, h1, h2⟩
    obtain ⟨hne, _, _⟩ := stands_of h hy h1
    obtain ⟨q, hq⟩ : ∃ q, t[y].path.length = q + 1 := ⟨t[y].path.length - 1, by have := List.length_pos_iff.2 hne; omega⟩
    rw [aboveI_take t hq] at h2
    obtain ⟨_, h3⟩ := findI_sound h2
    have hl : t[j].path.length = q := by rw [h3, List.length_take]; omega
    have hqq : insQ t t[j].path y = true := by
      rw [insQ_at hy, hl, hq, decide_eq_true rfl, h3, eqB_true rfl]; rfl
    rw [(insR_perm _ _ _).mem_iff, List.mem_filter, List.mem_range]
    exact ⟨hy, hqq⟩
theorem insideI_nat (t : List Dir) (j : Nat) : insideI t (j : Int) = insideL t j := by unfold insideI; rw [if_pos (by omega), Int.toNat_natCast]
/-- how often a directory has been seen, when those ahead of j are done, and the first k of j -/
def seenAt (t : List Dir) (j k y : Nat) : Prop := ∃ hy : y < t.length, 1 ≤ y ∧ (aboveI t t[y].path < (j : Int) ∨ y ∈ (insideL t j).take k)
theorem inseen_start (t : List Dir) {y : Nat} (h : checkE t = 0) : ¬ seenAt t 0 0 y := by
  rintro ⟨hy, h1, h2 | h2⟩
  · have := (stands_above h hy h1).1; omega
  · simp at h2
theorem inseen_end {t : List Dir} (h : checkE t = 0) {j : Nat} (hj : j < t.length) (y : Nat) : seenAt t j (insideL t j).length y ↔ seenAt t (j + 1) 0 y := by
  unfold seenAt
  rw [List.take_length]
  constructor
  · rintro ⟨hy, h1, h2 | h2⟩
    · exact ⟨hy, h1, .inl (by omega)⟩
    · obtain ⟨_, _, h3⟩ := (inside_mem h hj).1 h2
      exact ⟨hy, h1, .inl (by rw [h3]; omega)⟩
  · rintro ⟨hy, h1, h2 | h2⟩
    · by_cases he : aboveI t t[y].path = (j : Int)
      · exact ⟨hy, h1, .inr ((inside_mem h hj).2 ⟨hy, h1, he⟩)⟩
      · exact ⟨hy, h1, .inl (by omega)⟩
    · simp at h2
/-- the counts: 1 where it has been seen, else 0 -/
def Seen (t : List Dir) (j k : Nat) (l : List Int) : Prop := l.length = t.length ∧ ∀ y x, l[y]? = some x → (seenAt t j k y → x = 1) ∧ (¬ seenAt t j k y → x = 0)
theorem Seen.start {t : List Dir} (h : checkE t = 0) : Seen t 0 0 (List.replicate t.length 0) :=
  ⟨by simp, fun y x hx => by
    rw [List.getElem?_replicate] at hx
    split at hx
    · injection hx with hx
      exact ⟨fun hs => absurd hs (inseen_start t h), fun _ => hx.symm⟩
    · cases hx⟩
theorem Seen.next {t : List Dir} (h : checkE t = 0) {j : Nat} {l : List Int} (hl : Seen t j (insideL t j).length l) (hj : j < t.length) : Seen t (j + 1) 0 l :=
  ⟨hl.1, fun y x hx => by rw [← inseen_end h hj]; exact hl.2 y x hx⟩
end Go.Proofs.YthbnmehbhpakaaaGreatDoor
