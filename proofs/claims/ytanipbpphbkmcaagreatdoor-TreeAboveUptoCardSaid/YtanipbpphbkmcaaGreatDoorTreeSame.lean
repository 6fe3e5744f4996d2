/-
  tree.Same.
-/
import Derived.Test.YtanipbpphbkmcaaGreatDoorAmong
set_option autoImplicit false
set_option relaxedAutoImplicit false
set_option linter.unusedVariables false
set_option linter.unusedSimpArgs false
namespace Go.Proofs.YtanipbpphbkmcaaGreatDoor
open Go.Rows Go.RowKit Go.Shelf Go.Sort

noncomputable def inB (a b : List Dir) : Bool := a.all (fun d => b.any (sameD d))
theorem all_at {q : Dir → Bool} {l : List Dir} {k : Nat} (h : k < l.length) : (l.drop k).all q = (q l[k] && (l.drop (k + 1)).all q) := by
  rw [List.drop_eq_getElem_cons h, List.all_cons]

set_option maxHeartbeats 3200000 in
set_option maxRecDepth 100000 in
theorem treeSame_any (A B : Option Addr) (n c m e : Nat) (xs ys : List Dir) (w : World) (S T : Nat → Prop) (hx : SlV rDir w S xs (.slice A n c)) (hy : SlV rDir w T ys (.slice B m e)) :
    Calls Tryz.prog 35 #[.agg #[.slice A n c], .agg #[.slice B m e]] w fun e w' => e = .returned (.bool (inB xs ys && inB ys xs)) ∧ Below w.heap.size w w' := by
  have hnx := hx.n_eq
  have hcx := hx.cap_le
  have hny := hy.n_eq
  have hcy := hy.cap_le
  unfold maxLen at hcx hcy
  have hn63 : n ≤ 9223372036854775807 := by omega
  have hm63 : m ≤ 9223372036854775807 := by omega
  have HX := Lib.hid (hx.more (S' := fun b => b < w.heap.size) fun b _ h => h)
  have HY := Lib.hid (hy.more (S' := fun b => b < w.heap.size) fun b _ h => h)
  have HR : Hid ((inB xs ys && inB ys xs) = ((xs.drop 0).all (fun d => ys.any (sameD d)) && inB ys xs)) := rfl
  have HR2 : Hid (inB ys xs = (ys.drop 0).all (fun d => xs.any (sameD d))) := rfl
  have Hnx := Lib.hid hnx; clear hnx
  have Hny := Lib.hid hny; clear hny
  clear hx hy hcx hcy
  generalize (inB xs ys && inB ys xs) = R at *
  generalize inB ys xs = R2 at *
  go_enter Tryz.func35, Tryz.ntmps35
  go_wp2_with fail
  obtain ⟨w0, hw0⟩ : ∃ w0, w0 = (w.alloc (.cells #[.slice A n c] 24)).alloc (.cells #[.slice B m e] 24) := ⟨_, rfl⟩
  have hz : w.heap.size < w0.heap.size := by rw [hw0]; simp [go_sem]
  have hz1 : w.heap.size + 1 < w0.heap.size := by rw [hw0]; simp [go_sem]
  have hb0 : Below w.heap.size w w0 := by rw [hw0]; exact bal (bal (Below.refl _ _) _) _
  have a0 : w0.cell? ⟨w.heap.size, 0, none⟩ = some (.slice A n c) := by rw [hw0]; simp [go_sem]
  have a1 : w0.cell? ⟨w.heap.size + 1, 0, none⟩ = some (.slice B m e) := by rw [hw0]; simp [go_sem]
  rw [← hw0]
  clear hw0
  have HB0 := Lib.hid hb0; clear hb0
  go_loopw [12] (fun i wr => ∃ k : Nat, k ≤ n ∧ i = .int .i64 k ∧ Hid (R = ((xs.drop k).all (fun d => ys.any (sameD d)) && R2)) ∧ Below w0.heap.size w0 wr) (fun i _ => n - (intOf i).toNat)
  case atStart => exact ⟨0, Nat.zero_le _, rfl, HR, Below.refl _ _⟩
  case round =>
    obtain ⟨k, hk, rfl, heq, hbel⟩ := hrel
    have b0 := below_cell hbel a0 hz
    have b1 := below_cell hbel a1 hz1
    have hbel' := bot HB0.out hbel
    have hzr : w.heap.size < wr.heap.size := Nat.lt_of_lt_of_le hz hbel.size
    have hzr1 : w.heap.size + 1 < wr.heap.size := Nat.lt_of_lt_of_le hz1 hbel.size
    by_cases hlt : k < n
    · have hkx : k < xs.length := by have := Hnx.out; omega
      have hxw := HX.out.below hbel' (fun b h => h)
      have hyw := HY.out.below hbel' (fun b h => h)
      obtain ⟨b, oo, cs, rfl, _, hb1, hh, hcell⟩ := hxw.elem (List.getElem?_eq_getElem hkx)
      have Hat := Lib.hid (all_at (q := fun d => ys.any (sameD d)) hkx)
      have Hs : Hid (∀ o : Obj, Calls Tryz.prog 70 #[.agg #[.slice B m e], .agg cs.toArray] (wr.alloc o) fun e w' => e = .returned (.bool (ys.any (sameD xs[k]))) ∧ Below (wr.alloc o).heap.size (wr.alloc o) w') := fun o => among_any _ _ _ ys xs[k] cs _ _ _ (hyw.alloc o) (Rp.alloc (r := rDir) hh o)
      obtain ⟨pA, pa, pB, pb, pC, pc, pD, pd, rfl, hp, hpk, hI⟩ := dir_cells hh
      have c0 := hcell 0 _ rfl
      have c1 := hcell 1 _ rfl
      have c2 := hcell 2 _ rfl
      have c3 := hcell 3 _ rfl
      have c4 := hcell 4 _ rfl
      have c5 := hcell 5 _ rfl
      have c6 := hcell 6 _ rfl
      have c7 := hcell 7 _ rfl
      have c8 := hcell 8 _ rfl
      simp only [rDir, Nat.add_zero] at c0 c1 c2 c3 c4 c5 c6 c7 c8
      clear hcell hxw hyw hp hpk hh hI
      have hk0 : (0 : Int) ≤ (k : Int) := by omega
      have hkn : (k : Int) < (n : Int) := by omega
      have bo : ∀ o : Obj, (wr.alloc o).cell? ⟨w.heap.size + 1, 0, none⟩ = some (.slice B m e) := fun o => below_cell (bal (Below.refl _ _) o) b1 hzr1
      generalize ys.any (sameD xs[k]) = sb at *
      generalize xs[k].path.length = l0 at *
      generalize xs[k].pack.deps.length = l1 at *
      generalize xs[k].pack.peers.length = l2 at *
      generalize xs[k].pack.opts.length = l3 at *
      generalize xs[k].pack.name = nm at *
      generalize xs[k].pack.ver.major = y1 at *
      generalize xs[k].pack.ver.minor = y2 at *
      generalize xs[k].pack.ver.patch = y3 at *
      generalize xs[k].node = nd at *
      cases sb
      · have He : Hid (R = false) := by unfold Hid; rw [heq.out, Hat.out]; rfl
        clear heq Hat
        go_wp2_with fail
        refine (Hs.out _).mono ?_
        rintro e w1 ⟨rfl, B1⟩
        go_wp2_with fail
        go_ret
        exact ⟨ret_bool He.out.symm, bot (bal hbel' _) B1⟩
      · have He : Hid (R = ((xs.drop (k + 1)).all (fun d => ys.any (sameD d)) && R2)) := by unfold Hid; rw [heq.out, Hat.out]; rfl
        clear heq Hat
        go_wp2_with fail
        refine (Hs.out _).mono ?_
        rintro e w1 ⟨rfl, B1⟩
        have B3 := bot (bal hbel _) B1
        go_wp2_with fail
        go_roundw
        case rel => exact ⟨k + 1, by omega, by go_num, He, B3⟩
        case measure => simp [intOf]; omega
    · have He : Hid (R = R2) := by unfold Hid; rw [heq.out, List.drop_eq_nil_of_le (by have := Hnx.out; omega)]; rfl
      clear heq
      have HR3 : Hid (R = (ys.drop 0).all (fun d => xs.any (sameD d))) := He.out.trans HR2.out
      clear He HR2
      obtain ⟨wo, rfl⟩ : ∃ wo : World, wo = wr := ⟨_, rfl⟩
      go_wp2_with fail
      go_loopw [24] (fun i wr => ∃ k : Nat, k ≤ m ∧ i = .int .i64 k ∧ Hid (R = (ys.drop k).all (fun d => xs.any (sameD d))) ∧ Below w0.heap.size w0 wr) (fun i _ => m - (intOf i).toNat)
      case atStart => exact ⟨0, Nat.zero_le _, rfl, HR3, hbel⟩
      case round =>
        clear b0 b1 hbel hbel' hzr hzr1 hlt hk HR3
        obtain ⟨k', hk, rfl, heq, hbel⟩ := hrel
        have b0 := below_cell hbel a0 hz
        have hbel' := bot HB0.out hbel
        have hzr : w.heap.size < wr.heap.size := Nat.lt_of_lt_of_le hz hbel.size
        by_cases hlt : k' < m
        · have hkx : k' < ys.length := by have := Hny.out; omega
          have hxw := HX.out.below hbel' (fun b h => h)
          have hyw := HY.out.below hbel' (fun b h => h)
          obtain ⟨b, oo, cs, rfl, _, hb1, hh, hcell⟩ := hyw.elem (List.getElem?_eq_getElem hkx)
          have Hat := Lib.hid (all_at (q := fun d => xs.any (sameD d)) hkx)
          have Hs : Hid (∀ o : Obj, Calls Tryz.prog 70 #[.agg #[.slice A n c], .agg cs.toArray] (wr.alloc o) fun e w' => e = .returned (.bool (xs.any (sameD ys[k']))) ∧ Below (wr.alloc o).heap.size (wr.alloc o) w') := fun o => among_any _ _ _ xs ys[k'] cs _ _ _ (hxw.alloc o) (Rp.alloc (r := rDir) hh o)
          obtain ⟨pA, pa, pB, pb, pC, pc, pD, pd, rfl, hp, hpk, hI⟩ := dir_cells hh
          have c0 := hcell 0 _ rfl
          have c1 := hcell 1 _ rfl
          have c2 := hcell 2 _ rfl
          have c3 := hcell 3 _ rfl
          have c4 := hcell 4 _ rfl
          have c5 := hcell 5 _ rfl
          have c6 := hcell 6 _ rfl
          have c7 := hcell 7 _ rfl
          have c8 := hcell 8 _ rfl
          simp only [rDir, Nat.add_zero] at c0 c1 c2 c3 c4 c5 c6 c7 c8
          clear hcell hxw hyw hp hpk hh hI
          have hk0 : (0 : Int) ≤ (k' : Int) := by omega
          have hkn : (k' : Int) < (m : Int) := by omega
          have bo : ∀ o : Obj, (wr.alloc o).cell? ⟨w.heap.size, 0, none⟩ = some (.slice A n c) := fun o => below_cell (bal (Below.refl _ _) o) b0 hzr
          generalize xs.any (sameD ys[k']) = sb at *
          generalize ys[k'].path.length = l0 at *
          generalize ys[k'].pack.deps.length = l1 at *
          generalize ys[k'].pack.peers.length = l2 at *
          generalize ys[k'].pack.opts.length = l3 at *
          generalize ys[k'].pack.name = nm at *
          generalize ys[k'].pack.ver.major = y1 at *
          generalize ys[k'].pack.ver.minor = y2 at *
          generalize ys[k'].pack.ver.patch = y3 at *
          generalize ys[k'].node = nd at *
          cases sb
          · have He : Hid (R = false) := by unfold Hid; rw [heq.out, Hat.out]; rfl
            clear heq Hat
            go_wp2_with fail
            refine (Hs.out _).mono ?_
            rintro e w1 ⟨rfl, B1⟩
            go_wp2_with fail
            go_ret
            exact ⟨ret_bool He.out.symm, bot (bal hbel' _) B1⟩
          · have He : Hid (R = (ys.drop (k' + 1)).all (fun d => xs.any (sameD d))) := by unfold Hid; rw [heq.out, Hat.out]; rfl
            clear heq Hat
            go_wp2_with fail
            refine (Hs.out _).mono ?_
            rintro e w1 ⟨rfl, B1⟩
            have B3 := bot (bal hbel _) B1
            go_wp2_with fail
            go_roundw
            case rel => exact ⟨k' + 1, by omega, by go_num, He, B3⟩
            case measure => simp [intOf]; omega
        · have He : Hid (R = true) := by unfold Hid; rw [heq.out, List.drop_eq_nil_of_le (by have := Hny.out; omega)]; rfl
          go_wp2_with fail
          go_ret
          exact ⟨ret_bool He.out.symm, hbel'⟩

theorem sameD_self (d : Dir) : sameD d d = true := by unfold sameD; rw [eqB_true rfl, eqB_true rfl]; rfl
theorem inB_self (l : List Dir) : inB l l = true := by
  unfold inB
  rw [List.all_eq_true]
  intro d hd
  rw [List.any_eq_true]
  exact ⟨d, hd, sameD_self d⟩
end Go.Proofs.YtanipbpphbkmcaaGreatDoor
