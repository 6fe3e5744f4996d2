/-
  tree.among and tree.Same.
-/
import Derived.Test.YtanipbpphbkmcaaGreatDoorCheck
set_option autoImplicit false
set_option relaxedAutoImplicit false
set_option linter.unusedVariables false
set_option linter.unusedSimpArgs false
namespace Go.Proofs.YtanipbpphbkmcaaGreatDoor
open Go.Rows Go.RowKit Go.Shelf Go.Sort

set_option maxHeartbeats 800000 in
theorem containsFunc_any (g : FuncId) (cap : Value) (hE : Enters Tryz.prog g) (q : Dir → Bool) (A : Option Addr) (n c : Nat) (xs : List Dir) (w : World) (S : Nat → Prop) (hx : SlV rDir w S xs (.slice A n c))
    (hq : ∀ W d cs, Below w.heap.size w W → d ∈ xs → rDir.holds W (fun b => b < w.heap.size) d cs → Calls Tryz.prog g #[.agg cs.toArray, cap] W fun e w' => e = .returned (.bool (q d)) ∧ Below W.heap.size W w') :
    Calls Tryz.prog 95 #[.slice A n c, .func (.func g) #[] #[cap]] w fun e w' => e = .returned (.bool (xs.any q)) ∧ Below w.heap.size w w' := by
  have Hc := Lib.hid (indexFunc_any g cap hE q A n c xs w S hx hq)
  have Hr : Hid ((firstI q xs = -1 ∧ xs.any q = false) ∨ ∃ j : Nat, firstI q xs = (j : Int) ∧ j < xs.length ∧ xs.any q = true) := firstI_lt q xs
  clear hx hq
  generalize firstI q xs = r at *
  generalize xs.any q = R at *
  go_enter Tryz.func95, Tryz.ntmps95
  go_wp2_with fail
  refine (Hc.out).mono ?_
  rintro e w1 ⟨rfl, B1⟩
  rcases Hr.out with ⟨h1, h2⟩ | ⟨j, h1, _, h2⟩
  · have hd : decide (0 ≤ r) = false := decide_eq_false (by omega)
    have H2 := Lib.hid h2
    clear h1 h2
    go_wp2_with fail
    go_ret
    exact ⟨ret_bool (by rw [H2.out]), B1⟩
  · have hd : decide (0 ≤ r) = true := decide_eq_true (by omega)
    have hd' : 0 ≤ r := by omega
    have H2 := Lib.hid h2
    clear h1 h2
    go_wp2_with fail
    go_ret
    exact ⟨ret_bool (by rw [H2.out]), B1⟩

theorem enters_among1 : Enters Tryz.prog 96 := enters_of Tryz.func96 (by kernel_rfl) rfl
noncomputable def sameD (d x : Dir) : Bool := eqB x.path d.path && eqB x.pack d.pack

set_option maxHeartbeats 1600000 in
theorem among1_any (x d : Dir) (cs ds : List Value) (pb : Nat) (w : World) (S T : Nat → Prop) (hx : rDir.holds w S x cs) (hd : rDir.holds w T d ds) (hc : ∀ j u, ds[j]? = some u → w.cell? ⟨pb, j, none⟩ = some u) :
    Calls Tryz.prog 96 #[.agg cs.toArray, .pointer (some ⟨pb, 0, none⟩)] w fun e w' => e = .returned (.bool (sameD d x)) ∧ Below w.heap.size w w' := by
  obtain ⟨pA, pa, pB, pb', pC, pc, pD, pd, rfl, hp, hpk, hI⟩ := dir_cells hx
  obtain ⟨qA, qa, qB, qb, qC, qc, qD, qd, rfl, hq, hqk, hJ⟩ := dir_cells hd
  have d0 := hc 0 _ rfl
  have d1 := hc 1 _ rfl
  have d2 := hc 2 _ rfl
  have d3 := hc 3 _ rfl
  have d4 := hc 4 _ rfl
  have d5 := hc 5 _ rfl
  have d6 := hc 6 _ rfl
  have d7 := hc 7 _ rfl
  have hlt : pb < w.heap.size := World.block_lt_of_cell? w _ d0
  have Hs : Hid (sameD d x = (eqB x.path d.path && eqB x.pack d.pack)) := rfl
  have He1 : Hid (∀ o : Obj, Calls Tryz.prog 57 #[.slice pA x.path.length pa, .slice qA d.path.length qa] (w.alloc o) fun e w' => e = .returned (.bool (eqB x.path d.path)) ∧ Below (w.alloc o).heap.size (w.alloc o) w') := fun o => strsEq_any _ _ _ _ _ _ _ _ _ _ _ (hp.alloc o) (hq.alloc o)
  have He2 : Hid (∀ W, Below w.heap.size w W → Calls Tryz.prog 29 #[.agg #[.string x.pack.name, .int .i64 x.pack.ver.major, .int .i64 x.pack.ver.minor, .int .i64 x.pack.ver.patch, .slice pB x.pack.deps.length pb', .slice pC x.pack.peers.length pc, .slice pD x.pack.opts.length pd], .agg #[.string d.pack.name, .int .i64 d.pack.ver.major, .int .i64 d.pack.ver.minor, .int .i64 d.pack.ver.patch, .slice qB d.pack.deps.length qb, .slice qC d.pack.peers.length qc, .slice qD d.pack.opts.length qd]] W fun e w' => e = .returned (.bool (eqB x.pack d.pack)) ∧ Below W.heap.size W w') := fun W hW => packSame_any _ _ _ _ _ _ _ (hpk.keep hW) (hqk.keep hW)
  clear hp hpk hq hqk hc hx hd hI hJ
  generalize sameD d x = R at *
  generalize eqB x.path d.path = v1 at *
  generalize eqB x.pack d.pack = v2 at *
  generalize x.path.length = l0 at *
  generalize x.pack.deps.length = l1 at *
  generalize x.pack.peers.length = l2 at *
  generalize x.pack.opts.length = l3 at *
  generalize x.pack.name = nm at *
  generalize x.pack.ver.major = y1 at *
  generalize x.pack.ver.minor = y2 at *
  generalize x.pack.ver.patch = y3 at *
  generalize x.node = nd at *
  generalize d.path.length = m0 at *
  generalize d.pack.deps.length = m1 at *
  generalize d.pack.peers.length = m2 at *
  generalize d.pack.opts.length = m3 at *
  generalize d.pack.name = nn at *
  generalize d.pack.ver.major = z1 at *
  generalize d.pack.ver.minor = z2 at *
  generalize d.pack.ver.patch = z3 at *
  have k0 : ∀ o : Obj, (w.alloc o).cell? ⟨pb, 0, none⟩ = some (.slice qA m0 qa) := fun o => below_cell (bal (Below.refl _ _) o) d0 hlt
  go_enter Tryz.func96, Tryz.ntmps96
  go_wp2_with fail
  obtain ⟨w0, hw0⟩ : ∃ w0, w0 = w.alloc (.cells #[.slice pA l0 pa, .string nm, .int .i64 y1, .int .i64 y2, .int .i64 y3, .slice pB l1 pb', .slice pC l2 pc, .slice pD l3 pd, .int .i64 nd] 44) := ⟨_, rfl⟩
  have hz : w.heap.size < w0.heap.size := by rw [hw0]; simp [go_sem]
  have hb0 : Below w.heap.size w w0 := by rw [hw0]; exact bal (Below.refl _ _) _
  have e1 : w0.cell? ⟨w.heap.size, 1, none⟩ = some (.string nm) := by rw [hw0]; simp [go_sem]
  have e2 : w0.cell? ⟨w.heap.size, 2, none⟩ = some (.int .i64 y1) := by rw [hw0]; simp [go_sem]
  have e3 : w0.cell? ⟨w.heap.size, 3, none⟩ = some (.int .i64 y2) := by rw [hw0]; simp [go_sem]
  have e4 : w0.cell? ⟨w.heap.size, 4, none⟩ = some (.int .i64 y3) := by rw [hw0]; simp [go_sem]
  have e5 : w0.cell? ⟨w.heap.size, 5, none⟩ = some (.slice pB l1 pb') := by rw [hw0]; simp [go_sem]
  have e6 : w0.cell? ⟨w.heap.size, 6, none⟩ = some (.slice pC l2 pc) := by rw [hw0]; simp [go_sem]
  have e7 : w0.cell? ⟨w.heap.size, 7, none⟩ = some (.slice pD l3 pd) := by rw [hw0]; simp [go_sem]
  have Hc : Hid (Calls Tryz.prog 57 #[.slice pA l0 pa, .slice qA m0 qa] w0 fun e w' => e = .returned (.bool v1) ∧ Below w0.heap.size w0 w') := by rw [hw0]; exact He1.out _
  rw [← hw0]
  clear hw0 He1 k0
  refine Hc.out.mono ?_
  rintro e w1 ⟨rfl, B1⟩
  have HB := Lib.hid (bot hb0 B1)
  have B1' := Lib.hid B1
  clear Hc hb0 B1 d0
  cases v1
  · have He : Hid (R = false) := Hs.out
    go_wp2_with fail
    go_ret
    exact ⟨ret_bool He.out.symm, HB.out⟩
  have f1 := below_cell B1'.out e1 hz
  have f2 := below_cell B1'.out e2 hz
  have f3 := below_cell B1'.out e3 hz
  have f4 := below_cell B1'.out e4 hz
  have f5 := below_cell B1'.out e5 hz
  have f6 := below_cell B1'.out e6 hz
  have f7 := below_cell B1'.out e7 hz
  have g1 := below_cell HB.out d1 hlt
  have g2 := below_cell HB.out d2 hlt
  have g3 := below_cell HB.out d3 hlt
  have g4 := below_cell HB.out d4 hlt
  have g5 := below_cell HB.out d5 hlt
  have g6 := below_cell HB.out d6 hlt
  have g7 := below_cell HB.out d7 hlt
  have He : Hid (R = v2) := Hs.out
  clear e1 e2 e3 e4 e5 e6 e7 d1 d2 d3 d4 d5 d6 d7 Hs
  go_wp2_with fail
  refine (He2.out w1 HB.out).mono ?_
  rintro e w2 ⟨rfl, B2⟩
  cases v2
  · go_wp2_with fail
    go_ret
    exact ⟨ret_bool He.out.symm, bot HB.out B2⟩
  · go_wp2_with fail
    go_ret
    exact ⟨ret_bool He.out.symm, bot HB.out B2⟩

set_option maxHeartbeats 1600000 in
theorem among_any (A : Option Addr) (n c : Nat) (xs : List Dir) (d : Dir) (ds : List Value) (w : World) (S T : Nat → Prop) (hx : SlV rDir w S xs (.slice A n c)) (hd : rDir.holds w T d ds) :
    Calls Tryz.prog 70 #[.agg #[.slice A n c], .agg ds.toArray] w fun e w' => e = .returned (.bool (xs.any (sameD d))) ∧ Below w.heap.size w w' := by
  obtain ⟨qA, qa, qB, qb, qC, qc, qD, qd, rfl, _, _, _⟩ := dir_cells hd
  have Hc : Hid (∀ o t, Calls Tryz.prog 95 #[.slice A n c, .func (.func 96) #[] #[.pointer (some ⟨w.heap.size + 1, 0, none⟩)]] ((w.alloc o).alloc (.cells #[.slice qA d.path.length qa, .string d.pack.name, .int .i64 d.pack.ver.major, .int .i64 d.pack.ver.minor, .int .i64 d.pack.ver.patch, .slice qB d.pack.deps.length qb, .slice qC d.pack.peers.length qc, .slice qD d.pack.opts.length qd, .int .i64 d.node] t))
      fun e w' => e = .returned (.bool (xs.any (sameD d))) ∧ Below ((w.alloc o).alloc (.cells #[.slice qA d.path.length qa, .string d.pack.name, .int .i64 d.pack.ver.major, .int .i64 d.pack.ver.minor, .int .i64 d.pack.ver.patch, .slice qB d.pack.deps.length qb, .slice qC d.pack.peers.length qc, .slice qD d.pack.opts.length qd, .int .i64 d.node] t)).heap.size ((w.alloc o).alloc (.cells #[.slice qA d.path.length qa, .string d.pack.name, .int .i64 d.pack.ver.major, .int .i64 d.pack.ver.minor, .int .i64 d.pack.ver.patch, .slice qB d.pack.deps.length qb, .slice qC d.pack.peers.length qc, .slice qD d.pack.opts.length qd, .int .i64 d.node] t)) w') := fun o t => by
    refine containsFunc_any _ _ enters_among1 (sameD d) A n c xs _ S ((hx.alloc o).alloc _) (fun W x cs hW _ hxx => among1_any x d cs _ _ W _ T hxx (Rp.belowSize (r := rDir) (Rp.alloc (r := rDir) (Rp.alloc (r := rDir) hd o) _) hW) ?_)
    intro j u hu
    refine below_cell hW ?_ (by simp [go_sem])
    have hh : (w.alloc o).heap.size = w.heap.size + 1 := by simp [go_sem]
    have := news_of (w.alloc o) #[.slice qA d.path.length qa, .string d.pack.name, .int .i64 d.pack.ver.major, .int .i64 d.pack.ver.minor, .int .i64 d.pack.ver.patch, .slice qB d.pack.deps.length qb, .slice qC d.pack.peers.length qc, .slice qD d.pack.opts.length qd, .int .i64 d.node] t j u hu
    rw [hh, add_lit', Nat.zero_add] at this
    exact this
  clear hx hd
  generalize xs.any (sameD d) = R at *
  go_enter Tryz.func70, Tryz.ntmps70
  go_wp2_with fail
  refine (Hc.out _ _).mono ?_
  rintro e w1 ⟨rfl, B1⟩
  go_wp2_with fail
  go_ret
  exact ⟨rfl, bnew (bnew B1)⟩
end Go.Proofs.YtanipbpphbkmcaaGreatDoor
