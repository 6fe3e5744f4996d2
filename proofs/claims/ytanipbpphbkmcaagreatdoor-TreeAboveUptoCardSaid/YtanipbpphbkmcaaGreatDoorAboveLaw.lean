/-
  The law TreeAbove, walked.
-/
import Derived.Test.YtanipbpphbkmcaaGreatDoorAboveP
import Derived.Test.YtanipbpphbkmcaaGreatDoorLives
set_option autoImplicit false
set_option relaxedAutoImplicit false
set_option linter.unusedVariables false
set_option linter.unusedSimpArgs false
namespace Go.Proofs.YtanipbpphbkmcaaGreatDoor
open Go.Rows Go.RowKit Go.Shelf Go.Sort

structure SeenAt (t : List Dir) (w0 wr : World) (g n j k : Nat) (l : List Int) : Prop where
  row : IRow wr w0.heap.size g 0 n l
  seen : Seen t j k l
  bel : Below w0.heap.size w0 wr
theorem SeenAt.keep {t : List Dir} {w0 w1 w2 : World} {g n j k : Nat} {l : List Int} (h : SeenAt t w0 w1 g n j k l) (hb : Below w1.heap.size w1 w2) : SeenAt t w0 w2 g n j k l := ⟨h.row.keep hb, h.seen, bot h.bel hb⟩

set_option maxHeartbeats 3200000 in
set_option maxRecDepth 100000 in
theorem treeAbove_any (A : Option Addr) (n c : Nat) (xs : List Dir) (w : World) (ht : Tab w) (hx : SlV rDir w (fun b => b < w.heap.size) xs (.slice A n c)) (hlen : ∀ d ∈ xs, d.path.length * 32 ≤ 140737488355328) (hnb : xs.length ≤ 1048576) :
    Calls Tryz.prog 9 #[.agg #[.slice A n c]] w fun e w' => e = .returned (.bool true) ∧ Below w.heap.size w w' := by
  have hnx := hx.n_eq
  have hcx := hx.cap_le
  unfold maxLen at hcx
  have hn63 : n ≤ 9223372036854775807 := by omega
  have hn20 : n ≤ 1048576 := by omega
  have Hck : Hid (∀ W, Below w.heap.size w W → Calls Tryz.prog 10 #[.agg #[.slice A n c]] W fun e w' => e = .returned (.int .i64 (checkE xs)) ∧ Below W.heap.size W w') := fun W hW => check_any A n c xs W _ (tab_below ht hW) hlen (hx.belowSize hW)
  have Hp1 : Hid (∀ i W, Below w.heap.size w W → Calls Tryz.prog 24 #[.agg #[.slice A n c], .int .i64 i] W fun e w' => e = .returned (.int .i64 (parentI xs i)) ∧ Below W.heap.size W w') := fun i W hW => parent_any _ _ _ xs W _ i (hx.belowSize hW)
  have Hi1 : Hid (∀ i W, Below w.heap.size w W → Calls Tryz.prog 27 #[.agg #[.slice A n c], .int .i64 i] W fun e w' => (∃ v, e = .returned v ∧ SlV rInt w' (fun b => W.heap.size ≤ b) (castL (insideI xs i)) v) ∧ Below W.heap.size W w') := fun i W hW => inside_any _ _ _ xs i W _ (hx.belowSize hW) hlen hnb
  have Hlv : Hid (∀ W, Below w.heap.size w W → Calls Tryz.prog 12 #[] W fun e w' => e = .returned (.bool true) ∧ Below W.heap.size W w') := fun W hW => lives_any W (tab_below ht hW)
  have Hnx := Lib.hid hnx
  have HC0 : Hid (checkE xs = 0 → checkE xs = 0) := fun h => h
  clear hx hlen ht hnx hcx hnb
  obtain ⟨E, hEE⟩ : ∃ E, E = checkE xs := ⟨_, rfl⟩
  have HEE := Lib.hid hEE
  rw [← hEE] at Hck
  clear hEE HC0
  go_enter Tryz.func9, Tryz.ntmps9
  go_wp2_with fail
  obtain ⟨w0, hw0⟩ : ∃ w0, w0 = w.alloc (.cells #[.slice A n c] 24) := ⟨_, rfl⟩
  have hz : w.heap.size < w0.heap.size := by rw [hw0]; simp [go_sem]
  have HB0 : Hid (Below w.heap.size w w0) := by unfold Hid; rw [hw0]; exact bal (Below.refl _ _) _
  have a0 : w0.cell? ⟨w.heap.size, 0, none⟩ = some (.slice A n c) := by rw [hw0]; simp [go_sem]
  rw [← hw0]
  clear hw0
  have HA0 := Lib.hid a0
  refine (Hck.out w0 HB0.out).mono ?_
  rintro e w1 ⟨rfl, B1⟩
  have Q1 := Lib.hid B1; clear B1 Hck a0
  have b0 := below_cell Q1.out HA0.out hz
  by_cases hE : E = 0
  case neg =>
    have hEb : (E != 0) = true := by simp [hE]
    clear hE
    go_wp2_with fail
    refine (Hlv.out w1 (bot HB0.out Q1.out)).mono ?_
    rintro e w2 ⟨rfl, B2⟩
    go_wp2_with fail
    go_ret
    exact ⟨rfl, bot HB0.out (bot Q1.out B2)⟩
  have hEb : (E != 0) = false := by simp [hE]
  have HE : Hid (checkE xs = 0) := by unfold Hid; rw [← HEE.out, hE]
  clear hE HEE
  obtain ⟨i, hi, hiz, hsz, hby⟩ := info_parts (P := Tryz.prog) (e := 3) (show (Tryz.prog.info? 3).map (fun i => (i.zero, i.size, i.bytes)) = some (some (.int .i64 0), 1, 8) by kernel_rfl)
  have hw1s := Q1.out.size
  go_wp2_with (at_make; refine wpList_make_full w1 (by rfl) _ _ _ (by rfl) w0.heap.size 3 i _ 1 Tryz.underlying32 hi hiz hsz .i64 .i64 _ _ n (by rfl) (by rfl) rfl rfl (by rw [hby]; omega) (by unfold maxLen; omega) hw1s ?_)
  intro w2 hown hgrow
  have Q2 : Hid (Below w0.heap.size w0 w2) := Q1.out.grown hgrow (by exact hw1s) (fun k hk => by cases hk)
  rw [toList_madeCells_one] at hown
  have HM2 : Hid (SeenAt xs w0 w2 w1.heap.size n 0 0 (List.replicate xs.length 0)) := by
    refine ⟨?_, Seen.start HE.out, Q2.out⟩
    refine IRow.of_owns (e := 3) ?_
    rw [List.length_replicate, ← Hnx.out]
    have e2 : (List.replicate n (0 : Int)).map (Value.int .i64) = List.replicate n (.int .i64 0) := by simp
    rw [e2]
    exact hown
  clear hown hgrow hi hiz hsz hby b0
  generalize w1.heap.size = g at *
  clear Q1 hw1s
  go_wp2_with fail
  go_loopw [4] (fun i wr => ∃ (j : Nat) (l : List Int), j ≤ n ∧ i = .int .i64 j ∧ Hid (SeenAt xs w0 wr g n j 0 l)) (fun i _ => n - (intOf i).toNat)
  case atStart => exact ⟨0, _, Nat.zero_le _, rfl, HM2⟩
  case round =>
    clear HM2 Q2
    obtain ⟨j, l, hj, rfl, HM⟩ := hrel
    have b0 := below_cell HM.out.bel HA0.out hz
    have hbw := bot HB0.out HM.out.bel
    by_cases hlt : j < n
    case pos =>
      have hjx : j < xs.length := by have := Hnx.out; omega
      have hjI : (j : Int) < (n : Int) := by omega
      have hj0 : (0 : Int) ≤ (j : Int) := by omega
      go_wp2_with fail
      refine (Hi1.out (j : Int) wr hbw).mono ?_
      rintro e w3 ⟨⟨v, rfl, hv⟩, B3⟩
      rw [insideI_nat] at hv
      have hgw : g < wr.heap.size := HM.out.row.lt
      have HM3 : Hid (SeenAt xs w0 w3 g n j 0 l) := HM.out.keep B3
      have hv : SlV rInt w3 (fun b => g < b) (castL (insideL xs j)) v := hv.more fun b hb _ => by omega
      obtain ⟨vA, vc, hve, hvl, hvm⟩ := hv.val
      have Hin : Hid (∀ k (hk : k < (insideL xs j).length), (insideL xs j)[k] < xs.length ∧ j < (insideL xs j)[k] ∧ parentI xs ((insideL xs j)[k] : Int) = (j : Int)) := fun k hk => parent_inside HE.out hjx hk
      have Hst : Hid (∀ k l, Seen xs j k l → ∀ (hk : k < (insideL xs j).length), l[(insideL xs j)[k]]? = some 0 ∧ Seen xs j (k + 1) (l.set (insideL xs j)[k] 1)) := fun k l hl hk => Seen.step HE.out hl hjx hk
      have Hnx2 : Hid (∀ l, Seen xs j (insideL xs j).length l → Seen xs (j + 1) 0 l) := fun l hl => Seen.next HE.out hl hjx
      have hcl : (castL (insideL xs j)).length = (insideL xs j).length := by unfold castL; rw [List.length_map]
      have HV := Lib.hid hv
      clear B3 b0 hbw HM hv
      generalize insideL xs j = L at *
      obtain ⟨ln, hln⟩ : ∃ ln, ln = L.length := ⟨_, rfl⟩
      rw [hcl, ← hln] at hve hvl
      unfold maxLen at hvm
      rw [hve] at HV
      subst hve
      have Hll : Hid (L.length = ln) := hln.symm
      clear hln hcl
      go_wp2_with fail
      go_loopw [6] (fun i wi => ∃ (k : Nat) (l : List Int), k ≤ ln ∧ i = .int .i64 k ∧ Hid (SeenAt xs w0 wi g n j k l) ∧ Hid (SlV rInt wi (fun b => g < b) (castL L) (.slice vA ln vc))) (fun i _ => ln - (intOf i).toNat)
      case atStart => exact ⟨0, l, Nat.zero_le _, rfl, HM3, HV⟩
      case round =>
        clear HM3 HV
        obtain ⟨k, l2, hk, rfl, HM4, HV4⟩ := hrel
        have b0 := below_cell HM4.out.bel HA0.out hz
        have hbw := bot HB0.out HM4.out.bel
        by_cases hlk : k < ln
        case neg =>
          have hke : k = ln := by omega
          have hlk' : ¬ (k : Int) < (ln : Int) := by omega
          have HM5 : Hid (SeenAt xs w0 wr g n (j + 1) 0 l2) := ⟨HM4.out.row, Hnx2.out l2 (by rw [Hll.out, ← hke]; exact HM4.out.seen), HM4.out.bel⟩
          clear hke
          go_wp2_with fail
          go_roundw
          case rel => exact ⟨j + 1, l2, by omega, by go_num, HM5⟩
          case measure => simp [intOf]; omega
        have hkL : k < L.length := by have := Hll.out; omega
        have hkI : (k : Int) < (ln : Int) := by omega
        have hk0 : (0 : Int) ≤ (k : Int) := by omega
        obtain ⟨hy1, hy2, hy3⟩ := Hin.out k hkL
        obtain ⟨h00, hsn⟩ := Hst.out k l2 HM4.out.seen hkL
        obtain ⟨yb, yo, ycs, rfl, hyb, hyl, ⟨rfl, _⟩, hyc⟩ := HV4.out.elem (castL_get (List.getElem?_eq_getElem hkL))
        have y0 := hyc 0 _ rfl
        simp only [rInt, Nat.add_zero, Nat.mul_one] at y0
        clear hyc
        generalize L[k] = y at *
        have hyI : (y : Int) < (n : Int) := by have := Hnx.out; omega
        have hyO : (0 : Int) ≤ (y : Int) := by omega
        have hyd1 : decide ((y : Int) ≤ (j : Int)) = false := decide_eq_false (by omega)
        have hyd1n : decide (y ≤ j) = false := decide_eq_false (by omega)
        have hyd2 : decide ((n : Int) ≤ (y : Int)) = false := decide_eq_false (by omega)
        have hyd2n : decide (n ≤ y) = false := decide_eq_false (by omega)
        have H1 := Lib.hid (qcall (w := wr) (fun W hW => Hp1.out (y : Int) W (bot hbw hW)))
        rw [hy3] at H1
        have hjj : ((j : Int) != (j : Int)) = false := by simp
        have r_b0 := cell_regrown b0
        have r_y0 := cell_regrown y0
        go_wp2_with fail
        refine wp_region_qb (by kernel_rfl) (by kernel_rfl) ?_
        repeat (go_big_quiet_step (first | (with_reducible exact H1.out _ _)))
        refine wpQuiet_nil ?_
        intro w5 B5
        have HM5 := Lib.hid (HM4.out.keep B5)
        have HV5 := Lib.hid (HV4.out.belowSize B5)
        have y5 := below_cell B5 y0 hyl
        clear b0 y0 r_b0 r_y0 H1 B5 hyd1 hyd1n hyd2 hyd2n hjj hy3
        have c5 := HM5.out.row.at_ y 0 h00
        have hyn : y < n := by have := Hnx.out; omega
        have f5 := HM5.out.row.frozen (j := y) hyn
        rw [Nat.zero_add] at c5 f5
        have hyl2 : y < l2.length := (List.getElem?_eq_some_iff.1 h00).1
        have hset := HM5.out.row.set (j := y) hyl2 1
        rw [Nat.zero_add] at hset
        have HM6 : Hid (SeenAt xs w0 (w5.setCell ⟨g, y, none⟩ (.int .i64 1)) g n j (k + 1) (l2.set y 1)) := ⟨hset.1, hsn, below_setCell HM5.out.bel HM5.out.row.lo _⟩
        have HV6 : Hid (SlV rInt (w5.setCell ⟨g, y, none⟩ (.int .i64 1)) (fun b => g < b) (castL L) (.slice (some ⟨yb, yo, none⟩) ln vc)) := HV5.out.keep fun b hb hl => hset.2.block b hl (fun e => by have := Option.some.inj e; omega)
        clear hset h00 hsn
        go_wp2_with fail
        go_roundw
        case rel => exact ⟨k + 1, _, by omega, by go_num, HM6, HV6⟩
        case measure => simp [intOf]; omega
    case neg =>
      obtain rfl : j = n := by omega
      have hlt' : ¬ (j : Int) < (j : Int) := by omega
      have hsn := HM.out.seen
      rw [Hnx.out] at hsn
      have Hfin : Hid (∀ y x, l[y]? = some x → (y = 0 → x = 0) ∧ (1 ≤ y → x = 1)) := fun y x h => Seen.final HE.out hsn h
      have hll : l.length = j := by rw [hsn.1, Hnx.out]
      have Hll := Lib.hid hll
      have HRow := Lib.hid HM.out.row
      have HBl := Lib.hid HM.out.bel
      clear hlt hsn hll hbw
      obtain ⟨wo, hwo⟩ : ∃ wo, wo = wr := ⟨_, rfl⟩
      rw [← hwo] at HRow HBl
      go_wp2_with fail
      rw [← hwo]
      clear hwo HM b0
      go_loopw [7] (fun i wi => ∃ k : Nat, k ≤ j ∧ i = .int .i64 k ∧ wi = wo) (fun i _ => j - (intOf i).toNat)
      case atStart => exact ⟨0, Nat.zero_le _, rfl, rfl⟩
      case round =>
        obtain ⟨k, hk, rfl, rfl⟩ := hrel
        by_cases hlk : k < j
        case neg =>
          have hlk' : ¬ (k : Int) < (j : Int) := by omega
          go_wp2_with fail
          refine (Hlv.out _ (bot HB0.out HBl.out)).mono ?_
          rintro e w8 ⟨rfl, B8⟩
          go_wp2_with fail
          go_ret
          exact ⟨rfl, bot HB0.out (bot HBl.out B8)⟩
        have hkI : (k : Int) < (j : Int) := by omega
        have hk0 : (0 : Int) ≤ (k : Int) := by omega
        have hkl : k < l.length := by have := Hll.out; omega
        have c0 := HRow.out.at_ k _ (List.getElem?_eq_getElem hkl)
        rw [Nat.zero_add] at c0
        obtain ⟨h1, h2⟩ := Hfin.out k _ (List.getElem?_eq_getElem hkl)
        generalize l[k] = x at *
        by_cases hk00 : k = 0
        · have hx0 := h1 hk00
          subst hx0
          subst hk00
          clear h1 h2
          go_wp2_with fail
          go_roundw
          case rel => exact ⟨1, by omega, rfl, trivial⟩
          case measure => simp [intOf]; omega
        · have hx1 := h2 (by omega)
          subst hx1
          have hkz : ((k : Int) == 0) = false := by simp [hk00]
          clear h1 h2
          go_wp2_with fail
          go_roundw
          case rel => exact ⟨k + 1, by omega, by go_num, trivial⟩
          case measure => simp [intOf]; omega
end Go.Proofs.YtanipbpphbkmcaaGreatDoor
