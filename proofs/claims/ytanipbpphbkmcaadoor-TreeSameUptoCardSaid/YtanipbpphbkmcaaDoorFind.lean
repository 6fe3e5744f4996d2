/-
  slices.IndexFunc over directories, tree.Find and the document's Find.
-/
import Derived.Test.YtanipbpphbkmcaaDoorFindP
import Derived.Test.YtanipbpphbkmcaaDoorSameP
set_option autoImplicit false
set_option relaxedAutoImplicit false
set_option linter.unusedVariables false
set_option linter.unusedSimpArgs false
namespace Go.Proofs.YtanipbpphbkmcaaDoor
open Go.Rows Go.RowKit Go.Shelf Go.Sort

set_option maxHeartbeats 1600000 in
set_option maxRecDepth 100000 in
theorem indexFunc_any (g : FuncId) (cap : Value) (hE : Enters Tryd.prog g) (q : Dir → Bool) (A : Option Addr) (n c : Nat) (xs : List Dir) (w : World) (S : Nat → Prop) (hx : SlV rDir w S xs (.slice A n c))
    (hq : ∀ W d cs, Below w.heap.size w W → d ∈ xs → rDir.holds W (fun b => b < w.heap.size) d cs → Calls Tryd.prog g #[.agg cs.toArray, cap] W fun e w' => e = .returned (.bool (q d)) ∧ Below W.heap.size W w') :
    Calls Tryd.prog 40 #[.slice A n c, .func (.func g) #[] #[cap]] w fun e w' => e = .returned (.int .i64 (firstI q xs)) ∧ Below w.heap.size w w' := by
  have hnx := hx.n_eq
  have hcx := hx.cap_le
  unfold maxLen at hcx
  have hn63 : n ≤ 9223372036854775807 := by omega
  have hx' := hx.more (S' := fun b => b < w.heap.size) fun b _ h => h
  have Hend : Hid (firstI q xs = firstGo q (xs.drop 0) 0) := rfl
  have Hq := Lib.hid hq; clear hq
  have Hnx := Lib.hid hnx; clear hnx
  clear hcx hx
  generalize firstI q xs = r at *
  go_enter Tryd.func40, Tryd.ntmps40
  go_wp2_with fail
  go_loopw [8] (fun i wr => ∃ k : Nat, k ≤ n ∧ i = .int .i64 k ∧ Hid (r = firstGo q (xs.drop k) k) ∧ Below w.heap.size w wr) (fun i _ => n - (intOf i).toNat)
  case atStart => exact ⟨0, Nat.zero_le _, rfl, Hend, Below.refl _ _⟩
  case round =>
    obtain ⟨k, hk, rfl, heq, hbel⟩ := hrel
    by_cases hlt : k < n
    · have hkx : k < xs.length := by have := Hnx.out; omega
      have hxw := hx'.below hbel (fun b h => h)
      obtain ⟨b, o, cs, rfl, _, hb1, hh, hcell⟩ := hxw.elem (List.getElem?_eq_getElem hkx)
      have Hcall := Lib.hid (Hq.out wr xs[k] cs hbel (List.getElem_mem hkx) hh)
      have Hat := Lib.hid (firstGo_at q hkx)
      obtain ⟨s0, s1, s2, s3, rfl, hp0, _, _, _, _, hp1, hp2, hp3, _⟩ := hh
      obtain ⟨pA, pc, rfl, _, _⟩ := hp0.val
      obtain ⟨pB, pd, rfl, _, _⟩ := hp1.val
      obtain ⟨pC, pe, rfl, _, _⟩ := hp2.val
      obtain ⟨pD, pf, rfl, _, _⟩ := hp3.val
      have c0 := hcell 0 _ rfl
      have c1 := hcell 1 _ rfl
      have c2 := hcell 2 _ rfl
      have c3 := hcell 3 _ rfl
      have c4 := hcell 4 _ rfl
      have c5 := hcell 5 _ rfl
      have c6 := hcell 6 _ rfl
      have c7 := hcell 7 _ rfl
      have c8 := hcell 8 _ rfl
      simp only [rDir, Nat.add_zero] at c0 c1 c2 c3 c4 c5 c6 c7 c8
      clear hcell hxw hp0 hp1 hp2 hp3
      have hk0 : (0 : Int) ≤ (k : Int) := by omega
      have hkn : (k : Int) < (n : Int) := by omega
      have hent := fun args W => hE args W
      generalize q xs[k] = v at *
      generalize xs[k].path.length = l0 at *
      generalize xs[k].pack.deps.length = l1 at *
      generalize xs[k].pack.peers.length = l2 at *
      generalize xs[k].pack.opts.length = l3 at *
      generalize xs[k].pack.name = nm at *
      generalize xs[k].pack.ver.major = y1 at *
      generalize xs[k].pack.ver.minor = y2 at *
      generalize xs[k].pack.ver.patch = y3 at *
      generalize xs[k].node = nd at *
      cases v
      · have He : Hid (r = firstGo q (xs.drop (k + 1)) (k + 1)) := by unfold Hid; rw [heq.out, Hat.out]; rfl
        clear Hat heq
        go_wp2_with fail
        refine (Hcall.out).mono ?_
        rintro e w1 ⟨rfl, B1⟩
        go_wp2_with fail
        go_roundw
        case rel => exact ⟨k + 1, by omega, by go_num, He, bot hbel B1⟩
        case measure => simp [intOf]; omega
      · have He : Hid (r = (k : Int)) := by unfold Hid; rw [heq.out, Hat.out]; rfl
        clear Hat heq
        go_wp2_with fail
        refine (Hcall.out).mono ?_
        rintro e w1 ⟨rfl, B1⟩
        go_wp2_with fail
        go_ret
        exact ⟨ret_int He.out.symm, bot hbel B1⟩
    · have He : Hid (r = -1) := by unfold Hid; rw [heq.out, List.drop_eq_nil_of_le (by have := Hnx.out; omega)]; rfl
      go_wp2_with fail
      go_ret
      exact ⟨ret_int He.out.symm, hbel⟩

theorem enters_find1 : Enters Tryd.prog 41 := enters_of Tryd.func41 (by kernel_rfl) rfl

set_option maxHeartbeats 800000 in
theorem find1_any (d : Dir) (cs : List Value) (pb : Nat) (B : Option Addr) (m e : Nat) (ys : List ByteArray) (w : World) (S T : Nat → Prop) (hd : rDir.holds w S d cs) (hc : w.cell? ⟨pb, 0, none⟩ = some (.slice B m e)) (hy : SlV rStr w T ys (.slice B m e)) :
    Calls Tryd.prog 41 #[.agg cs.toArray, .pointer (some ⟨pb, 0, none⟩)] w fun e w' => e = .returned (.bool (eqB d.path ys)) ∧ Below w.heap.size w w' := by
  obtain ⟨s0, s1, s2, s3, rfl, hp0, _, _, _, _, hp1, hp2, hp3, _⟩ := hd
  obtain ⟨pA, pc, rfl, _, _⟩ := hp0.val
  obtain ⟨pB, pd, rfl, _, _⟩ := hp1.val
  obtain ⟨pC, pe, rfl, _, _⟩ := hp2.val
  obtain ⟨pD, pf, rfl, _, _⟩ := hp3.val
  have hlt : pb < w.heap.size := World.block_lt_of_cell? w _ hc
  have Hc : Hid (∀ o : Obj, Calls Tryd.prog 37 #[.slice pA d.path.length pc, .slice B m e] (w.alloc o) fun e w' => e = .returned (.bool (eqB d.path ys)) ∧ Below (w.alloc o).heap.size (w.alloc o) w') := fun o => strsEq_any _ _ _ _ _ _ _ _ _ _ _ (hp0.alloc o) (hy.alloc o)
  have hc' : ∀ o : Obj, (w.alloc o).cell? ⟨pb, 0, none⟩ = some (.slice B m e) := fun o => below_cell (bal (Below.refl _ _) o) hc hlt
  clear hp0 hp1 hp2 hp3 hy hc
  generalize eqB d.path ys = r at *
  generalize d.path.length = l0 at *
  generalize d.pack.deps.length = l1 at *
  generalize d.pack.peers.length = l2 at *
  generalize d.pack.opts.length = l3 at *
  generalize d.pack.name = nm at *
  generalize d.pack.ver.major = y1 at *
  generalize d.pack.ver.minor = y2 at *
  generalize d.pack.ver.patch = y3 at *
  generalize d.node = nd at *
  go_enter Tryd.func41, Tryd.ntmps41
  go_wp2_with fail
  refine (Hc.out _).mono ?_
  rintro e w1 ⟨rfl, B1⟩
  go_wp2_with fail
  go_ret
  exact ⟨rfl, bnew B1⟩

set_option maxHeartbeats 800000 in
theorem find_any (A B : Option Addr) (n c m d : Nat) (xs : List Dir) (ys : List ByteArray) (w : World) (S T : Nat → Prop) (hx : SlV rDir w S xs (.slice A n c)) (hy : SlV rStr w T ys (.slice B m d)) :
    Calls Tryd.prog 23 #[.agg #[.slice A n c], .slice B m d] w fun e w' => e = .returned (.int .i64 (findI xs ys)) ∧ Below w.heap.size w w' := by
  have Hc : Hid (∀ o t, Calls Tryd.prog 40 #[.slice A n c, .func (.func 41) #[] #[.pointer (some ⟨w.heap.size + 1, 0, none⟩)]] ((w.alloc o).alloc (.cells #[.slice B m d] t)) fun e w' => e = .returned (.int .i64 (findI xs ys)) ∧ Below ((w.alloc o).alloc (.cells #[.slice B m d] t)).heap.size ((w.alloc o).alloc (.cells #[.slice B m d] t)) w') := fun o t => by
    refine indexFunc_any _ _ enters_find1 _ A n c xs _ S ((hx.alloc o).alloc _) (fun W dd cs hW _ hd => find1_any dd cs _ B m d ys W _ T hd ?_ ?_)
    · exact below_cell hW (by simp [go_sem]) (by simp [go_sem])
    · exact ((hy.alloc o).alloc _).belowSize hW
  clear hx hy
  generalize findI xs ys = r at *
  go_enter Tryd.func23, Tryd.ntmps23
  go_wp2_with fail
  refine (Hc.out _ _).mono ?_
  rintro e w1 ⟨rfl, B1⟩
  go_wp2_with fail
  go_ret
  exact ⟨rfl, bnew (bnew B1)⟩
end Go.Proofs.YtanipbpphbkmcaaDoor
