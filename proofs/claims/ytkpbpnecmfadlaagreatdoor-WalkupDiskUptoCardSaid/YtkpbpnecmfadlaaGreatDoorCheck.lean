/-
  tree.Check: may a tree be?
-/
import Derived.Test.YtkpbpnecmfadlaaGreatDoorStand
set_option autoImplicit false
set_option relaxedAutoImplicit false
set_option linter.unusedVariables false
set_option linter.unusedSimpArgs false
namespace Go.Proofs.YtkpbpnecmfadlaaGreatDoor
open Go.Rows Go.RowKit Go.Shelf Go.Sort

def zeroPack : Pack := ⟨⟨#[]⟩, ⟨0, 0, 0⟩, [], [], []⟩
noncomputable def rootB (d : Dir) : Bool := decide (d.path.length = 0) && (eqB d.pack zeroPack && decide (d.node = 0))
noncomputable def okGo (t : List Dir) : List Dir → Nat → Bool
  | [], _ => true
  | d :: l, k => (bif decide (k = 0) then rootB d else standsB t d k) && okGo t l (k + 1)
noncomputable def checkE (t : List Dir) : Int := if t.length < 1 ∨ 257 < t.length then 42 else bif okGo t t 0 then 0 else 42
theorem okGo_at (t : List Dir) {l : List Dir} {k : Nat} (h : k < l.length) : okGo t (l.drop k) k = ((bif decide (k = 0) then rootB l[k] else standsB t l[k] k) && okGo t (l.drop (k + 1)) (k + 1)) := by
  rw [List.drop_eq_getElem_cons h, okGo]
theorem packV_zero (w : World) (S : Nat → Prop) : PackV w S zeroPack (.agg #[.string ⟨#[]⟩, .int .i64 0, .int .i64 0, .int .i64 0, .slice none 0 0, .slice none 0 0, .slice none 0 0]) :=
  ⟨none, 0, 0, none, 0, 0, none, 0, 0, rfl, Nat.zero_le _, SlV.nil_ _ _ _, SlV.nil_ _ _ _, SlV.nil_ _ _ _⟩

set_option maxHeartbeats 3200000 in
set_option maxRecDepth 100000 in
theorem check_any (A : Option Addr) (n c : Nat) (xs : List Dir) (w : World) (S : Nat → Prop) (ht : Tab w) (hlen : ∀ d ∈ xs, d.path.length * 32 ≤ 140737488355328) (hx : SlV rDir w S xs (.slice A n c)) :
    Calls Tryz.prog 38 #[.agg #[.slice A n c]] w fun e w' => e = .returned (.int .i64 (checkE xs)) ∧ Below w.heap.size w w' := by
  have hnx := hx.n_eq
  have hcx := hx.cap_le
  unfold maxLen at hcx
  have hn63 : n ≤ 9223372036854775807 := by omega
  have HX := Lib.hid (hx.more (S' := fun b => b < w.heap.size) fun b _ h => h)
  have Hst : Hid (∀ (k : Nat) (hk : k < xs.length) W, Below w.heap.size w W → Calls Tryz.prog 53 #[.agg #[.slice A n c], .int .i64 k] W fun e w' => e = .returned (.bool (standsB xs xs[k] k)) ∧ Below W.heap.size W w') := fun k hk W hW => stands_any A n c xs W _ k hk (tab_below ht hW) hlen (hx.belowSize hW)
  by_cases hn1 : n < 1
  · have hni : (n : Int) < 1 := by omega
    have hnk : decide ((n : Int) < 1) = true := decide_eq_true hni
    have He : Hid (checkE xs = 42) := by unfold Hid checkE; rw [if_pos (.inl (by omega))]
    clear hx hcx hnx Hst HX
    generalize checkE xs = R at *
    go_enter Tryz.func38, Tryz.ntmps38
    go_wp2_with fail
    go_ret
    exact ⟨ret_int He.out.symm, bal (Below.refl _ _) _⟩
  by_cases hn2 : 257 < n
  · have hni : ¬ (n : Int) < 1 := by omega
    have hnk : decide ((n : Int) < 1) = false := decide_eq_false hni
    have hmi : (257 : Int) < (n : Int) := by omega
    have hmk : decide ((257 : Int) < (n : Int)) = true := decide_eq_true hmi
    have He : Hid (checkE xs = 42) := by unfold Hid checkE; rw [if_pos (.inr (by omega))]
    clear hx hcx hnx Hst HX
    generalize checkE xs = R at *
    go_enter Tryz.func38, Tryz.ntmps38
    go_wp2_with fail
    go_ret
    exact ⟨ret_int He.out.symm, bal (Below.refl _ _) _⟩
  have hni : ¬ (n : Int) < 1 := by omega
  have hnk : decide ((n : Int) < 1) = false := decide_eq_false hni
  have hmi : ¬ (257 : Int) < (n : Int) := by omega
  have hmk : decide ((257 : Int) < (n : Int)) = false := decide_eq_false hmi
  have HR : Hid (checkE xs = bif okGo xs (xs.drop 0) 0 then 0 else 42) := by unfold Hid checkE; rw [if_neg (by omega)]; rfl
  have Hnx := Lib.hid hnx; clear hnx
  clear hx hcx hlen ht
  generalize checkE xs = R at *
  go_enter Tryz.func38, Tryz.ntmps38
  go_wp2_with fail
  obtain ⟨w0, hw0⟩ : ∃ w0, w0 = w.alloc (.cells #[.slice A n c] 66) := ⟨_, rfl⟩
  have hz : w.heap.size < w0.heap.size := by rw [hw0]; simp [go_sem]
  have hb0 : Below w.heap.size w w0 := by rw [hw0]; exact bal (Below.refl _ _) _
  have a0 : w0.cell? ⟨w.heap.size, 0, none⟩ = some (.slice A n c) := by rw [hw0]; simp [go_sem]
  rw [← hw0]
  clear hw0
  have HB0 := Lib.hid hb0; clear hb0
  go_loopw [19] (fun i wr => ∃ k : Nat, k ≤ n ∧ i = .int .i64 k ∧ Hid (R = bif okGo xs (xs.drop k) k then 0 else 42) ∧ Below w0.heap.size w0 wr) (fun i _ => n - (intOf i).toNat)
  case atStart => exact ⟨0, Nat.zero_le _, rfl, HR, Below.refl _ _⟩
  case round =>
    obtain ⟨k, hk, rfl, heq, hbel⟩ := hrel
    have b0 := below_cell hbel a0 hz
    have hbel' := bot HB0.out hbel
    have hzr : w.heap.size < wr.heap.size := Nat.lt_of_lt_of_le hz hbel.size
    by_cases hlt : k < n
    · have hkx : k < xs.length := by have := Hnx.out; omega
      have hxw := HX.out.below hbel' (fun b h => h)
      obtain ⟨b, oo, cs, rfl, _, hb1, hh, hcell⟩ := hxw.elem (List.getElem?_eq_getElem hkx)
      obtain ⟨pA, pa, pB, pb, pC, pc, pD, pd, rfl, hp, hpk, hI⟩ := dir_cells hh
      have c0 := hcell 0 _ rfl
      have c1 := hcell 1 _ rfl
      have c2 := hcell 2 _ rfl
      have c3 := hcell 3 _ rfl
      have c4 := hcell 4 _ rfl
      have c5 := hcell 5 _ rfl
      have c6 := hcell 6 _ rfl
      have c7 := hcell 7 _ rfl
      have c8 := hcell 8 _ rfl
      simp only [rDir, Nat.add_zero] at c0 c1 c2 c3 c4 c5 c6 c7 c8
      have Hat := Lib.hid (okGo_at xs hkx)
      have Hs : Hid (∀ o : Obj, Calls Tryz.prog 53 #[.agg #[.slice (some ⟨b, oo, none⟩) n c], .int .i64 k] (wr.alloc o) fun e w' => e = .returned (.bool (standsB xs xs[k] k)) ∧ Below (wr.alloc o).heap.size (wr.alloc o) w') := fun o => Hst.out k hkx _ (bal hbel' o)
      have Hsm : Hid (∀ o : Obj, Calls Tryz.prog 52 #[.agg #[.string xs[k].pack.name, .int .i64 xs[k].pack.ver.major, .int .i64 xs[k].pack.ver.minor, .int .i64 xs[k].pack.ver.patch, .slice pB xs[k].pack.deps.length pb, .slice pC xs[k].pack.peers.length pc, .slice pD xs[k].pack.opts.length pd], .agg #[.string ⟨#[]⟩, .int .i64 0, .int .i64 0, .int .i64 0, .slice none 0 0, .slice none 0 0, .slice none 0 0]] (wr.alloc o) fun e w' => e = .returned (.bool (eqB xs[k].pack zeroPack)) ∧ Below (wr.alloc o).heap.size (wr.alloc o) w') := fun o => packSame_any _ _ _ _ _ _ (fun _ => True) (hpk.keep (bal (Below.refl _ _) o)) (packV_zero _ _)
      have Hro : Hid (rootB xs[k] = (decide (xs[k].path.length = 0) && (eqB xs[k].pack zeroPack && decide (xs[k].node = 0)))) := rfl
      clear hcell hxw hp hpk hh hI
      have hk0 : (0 : Int) ≤ (k : Int) := by omega
      have hkn : (k : Int) < (n : Int) := by omega
      generalize standsB xs xs[k] k = sb at *
      generalize rootB xs[k] = rb at *
      generalize eqB xs[k].pack zeroPack = eb at *
      generalize xs[k].path.length = l0 at *
      generalize xs[k].pack.deps.length = l1 at *
      generalize xs[k].pack.peers.length = l2 at *
      generalize xs[k].pack.opts.length = l3 at *
      generalize xs[k].pack.name = nm at *
      generalize xs[k].pack.ver.major = y1 at *
      generalize xs[k].pack.ver.minor = y2 at *
      generalize xs[k].pack.ver.patch = y3 at *
      generalize xs[k].node = nd at *
      have Hno : Hid ((bif decide (k = 0) then rb else sb) = false → R = 42) := fun h => by rw [heq.out, Hat.out, h]; rfl
      have Hyes : Hid ((bif decide (k = 0) then rb else sb) = true → R = bif okGo xs (xs.drop (k + 1)) (k + 1) then 0 else 42) := fun h => by rw [heq.out, Hat.out, h]; rfl
      clear Hat heq
      by_cases hkz : k = 0
      · have hkb : ((k : Int) == 0) = true := by simp [hkz]
        have Hno' : Hid (rb = false → R = 42) := fun h => Hno.out (by rw [decide_eq_true hkz]; exact h)
        have Hyes' : Hid (rb = true → R = bif okGo xs (xs.drop (k + 1)) (k + 1) then 0 else 42) := fun h => Hyes.out (by rw [decide_eq_true hkz]; exact h)
        clear Hno Hyes Hs hkz
        by_cases hl0 : l0 = 0
        case neg =>
          have hzb : ((l0 : Int) == 0) = false := by simp [hl0]
          have He : Hid (R = 42) := Hno'.out (by rw [Hro.out, decide_eq_false hl0]; rfl)
          clear hl0 Hro
          go_wp2_with fail
          go_ret
          exact ⟨ret_int He.out.symm, bal hbel' _⟩
        have hzb : ((l0 : Int) == 0) = true := by simp [hl0]
        have Hro2 : Hid (rb = (eb && decide (nd = 0))) := by unfold Hid; rw [Hro.out, decide_eq_true hl0]; rfl
        clear hl0 Hro
        go_wp2_with fail
        refine (Hsm.out _).mono ?_
        rintro e w1 ⟨rfl, B1⟩
        have B2 := bot (bal hbel' _) B1
        have g8 := below_cell B1 (show (wr.alloc (.cells #[.slice pA l0 pa, .string nm, .int .i64 y1, .int .i64 y2, .int .i64 y3, .slice pB l1 pb, .slice pC l2 pc, .slice pD l3 pd, .int .i64 nd] 63)).cell? ⟨wr.heap.size, 8, none⟩ = some (.int .i64 nd) by simp [go_sem]) (by simp [go_sem])
        have B3 := bot (bal hbel _) B1
        clear B1
        cases eb
        · have He : Hid (R = 42) := Hno'.out (by rw [Hro2.out]; rfl)
          go_wp2_with fail
          go_ret
          exact ⟨ret_int He.out.symm, B2⟩
        by_cases hnd : nd = 0
        · have hdb : (nd == 0) = true := by simp [hnd]
          have He := Lib.hid (Hyes'.out (by rw [Hro2.out, decide_eq_true hnd]; rfl))
          clear hnd
          go_wp2_with fail
          go_roundw
          case rel => exact ⟨k + 1, by omega, by go_num, He, B3⟩
          case measure => simp [intOf]; omega
        · have hdb : (nd == 0) = false := by simp [hnd]
          have He : Hid (R = 42) := Hno'.out (by rw [Hro2.out, decide_eq_false hnd]; rfl)
          clear hnd
          go_wp2_with fail
          go_ret
          exact ⟨ret_int He.out.symm, B2⟩
      · have hkb : ((k : Int) == 0) = false := by simp [hkz]
        have Hno' : Hid (sb = false → R = 42) := fun h => Hno.out (by rw [decide_eq_false hkz]; exact h)
        have Hyes' : Hid (sb = true → R = bif okGo xs (xs.drop (k + 1)) (k + 1) then 0 else 42) := fun h => Hyes.out (by rw [decide_eq_false hkz]; exact h)
        clear Hno Hyes Hsm Hro hkz
        have bo : ∀ o : Obj, (wr.alloc o).cell? ⟨w.heap.size, 0, none⟩ = some (.slice (some ⟨b, oo, none⟩) n c) := fun o => below_cell (bal (Below.refl _ _) o) b0 hzr
        go_wp2_with fail
        refine (Hs.out _).mono ?_
        rintro e w1 ⟨rfl, B1⟩
        have B2 := bot (bal hbel' _) B1
        have B3 := bot (bal hbel _) B1
        clear B1
        cases sb
        · have He : Hid (R = 42) := Hno'.out rfl
          go_wp2_with fail
          go_ret
          exact ⟨ret_int He.out.symm, B2⟩
        · have He := Lib.hid (Hyes'.out rfl)
          go_wp2_with fail
          go_roundw
          case rel => exact ⟨k + 1, by omega, by go_num, He, B3⟩
          case measure => simp [intOf]; omega
    · have He : Hid (R = 0) := by unfold Hid; rw [heq.out, List.drop_eq_nil_of_le (by have := Hnx.out; omega)]; rfl
      go_wp2_with fail
      go_ret
      exact ⟨ret_int He.out.symm, hbel'⟩
end Go.Proofs.YtkpbpnecmfadlaaGreatDoor
/-
  The document's Check: may a tree be?
-/
set_option autoImplicit false
set_option relaxedAutoImplicit false
set_option linter.unusedVariables false
set_option linter.unusedSimpArgs false
namespace Go.Proofs.YtkpbpnecmfadlaaGreatDoor
open Go.Rows Go.RowKit Go.Shelf Go.Sort

end Go.Proofs.YtkpbpnecmfadlaaGreatDoor
