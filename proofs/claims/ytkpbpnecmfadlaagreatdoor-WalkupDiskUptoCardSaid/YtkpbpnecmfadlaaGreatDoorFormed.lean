/-
  walkup.formed: do a graph's edges lead to places?
-/
import Derived.Test.YtkpbpnecmfadlaaGreatDoorFind
import Derived.Test.YtkpbpnecmfadlaaGreatDoorQuietB
set_option autoImplicit false
set_option relaxedAutoImplicit false
set_option linter.unusedVariables false
set_option linter.unusedSimpArgs false
namespace Go.Proofs.YtkpbpnecmfadlaaGreatDoor
open Go.Rows Go.RowKit Go.Shelf Go.Sort

def edgeB (m : Nat) (e : Edge) : Bool := decide (1 ≤ e.to) && decide (e.to < (m : Int))
def nodeB (m : Nat) (x : Node) : Bool := x.edges.all (edgeB m)
def formedB (g : List Node) : Bool := g.all (nodeB g.length) && decide (0 < g.length)
theorem allL_at {α : Type} {q : α → Bool} {l : List α} {k : Nat} (h : k < l.length) : (l.drop k).all q = (q l[k] && (l.drop (k + 1)).all q) := by
  rw [List.drop_eq_getElem_cons h, List.all_cons]

set_option maxHeartbeats 3200000 in
set_option maxRecDepth 100000 in
theorem formed_any (A : Option Addr) (n c : Nat) (g : List Node) (w : World) (S : Nat → Prop) (hx : SlV rNode w S g (.slice A n c)) :
    Calls Tryz.prog 39 #[.agg #[.slice A n c]] w fun e w' => e = .returned (.bool (formedB g)) ∧ Below w.heap.size w w' := by
  have hnx := hx.n_eq
  have hcx := hx.cap_le
  unfold maxLen at hcx
  have hn63 : n ≤ 9223372036854775807 := by omega
  have HX := Lib.hid (hx.more (S' := fun b => b < w.heap.size) fun b _ h => h)
  have HR : Hid (formedB g = ((g.drop 0).all (nodeB n) && decide (0 < n))) := by unfold Hid formedB; rw [hnx]; rfl
  have Hnx := Lib.hid hnx; clear hnx
  clear hx hcx
  generalize formedB g = R at *
  go_enter Tryz.func39, Tryz.ntmps39
  go_wp2_with fail
  obtain ⟨w0, hw0⟩ : ∃ w0, w0 = w.alloc (.cells #[.slice A n c] 75) := ⟨_, rfl⟩
  have hz : w.heap.size < w0.heap.size := by rw [hw0]; simp [go_sem]
  have hb0 : Below w.heap.size w w0 := by rw [hw0]; exact bal (Below.refl _ _) _
  have a0 : w0.cell? ⟨w.heap.size, 0, none⟩ = some (.slice A n c) := by rw [hw0]; simp [go_sem]
  rw [← hw0]
  clear hw0
  have HB0 := Lib.hid hb0; clear hb0
  go_loopw [10] (fun i wr => ∃ k : Nat, k ≤ n ∧ i = .int .i64 k ∧ Hid (R = ((g.drop k).all (nodeB n) && decide (0 < n))) ∧ Below w0.heap.size w0 wr) (fun i _ => n - (intOf i).toNat)
  case atStart => exact ⟨0, Nat.zero_le _, rfl, HR, Below.refl _ _⟩
  case round =>
    obtain ⟨k, hk, rfl, heq, hbel⟩ := hrel
    have b0 := below_cell hbel a0 hz
    have hbel' := bot HB0.out hbel
    by_cases hlt : k < n
    · have hkx : k < g.length := by have := Hnx.out; omega
      obtain ⟨b, oo, cs, rfl, _, hb1, hh, hcell⟩ := (HX.out.below hbel' (fun b h => h)).elem (List.getElem?_eq_getElem hkx)
      have Hat := Lib.hid (allL_at (q := nodeB n) hkx)
      have Hnd : Hid (nodeB n g[k] = (g[k].edges.drop 0).all (edgeB n)) := rfl
      obtain ⟨s0, s1, rfl, _, _, _, _, hp1, hp2⟩ := hh
      obtain ⟨pA, pa, rfl, _, _⟩ := hp1.val
      obtain ⟨qA, qa, rfl, hq1, hq2⟩ := hp2.val
      unfold maxLen at hq2
      have c0 := hcell 0 _ rfl
      have c1 := hcell 1 _ rfl
      have c2 := hcell 2 _ rfl
      have c3 := hcell 3 _ rfl
      have c4 := hcell 4 _ rfl
      have c5 := hcell 5 _ rfl
      simp only [rNode, Nat.add_zero] at c0 c1 c2 c3 c4 c5
      have HE : Hid (SlV rEdge wr (fun b => b < wr.heap.size) g[k].edges (.slice qA g[k].edges.length qa)) := SlV.more hp2 (fun b _ h => h)
      clear hcell hp1 hp2
      have hk0 : (0 : Int) ≤ (k : Int) := by omega
      have hkn : (k : Int) < (n : Int) := by omega
      have hn0 : decide (0 < n) = true := decide_eq_true (by omega)
      generalize nodeB n g[k] = nb at *
      generalize g[k].ctx.length = l1 at *
      generalize g[k].name = nm at *
      generalize g[k].ver.major = y1 at *
      generalize g[k].ver.minor = y2 at *
      generalize g[k].ver.patch = y3 at *
      generalize g[k].edges = es at *
      generalize hl0 : es.length = m at *
      have Hm := Lib.hid hl0; clear hl0
      obtain ⟨wo, rfl⟩ : ∃ wo : World, wo = wr := ⟨_, rfl⟩
      go_wp2_with fail
      obtain ⟨w1, hw1⟩ : ∃ w1, w1 = wo.alloc (.cells #[.string nm, .int .i64 y1, .int .i64 y2, .int .i64 y3, .slice pA l1 pa, .slice qA m qa] 72) := ⟨_, rfl⟩
      have hb1' : Below wo.heap.size wo w1 := by rw [hw1]; exact bal (Below.refl _ _) _
      rw [← hw1]
      clear hw1 c0 c1 c2 c3 c4 c5 b0
      go_loopw [17] (fun i wr => ∃ q : Nat, q ≤ m ∧ i = .int .i64 q ∧ Hid (nb = (es.drop q).all (edgeB n)) ∧ Below wo.heap.size wo wr) (fun i _ => m - (intOf i).toNat)
      case atStart => exact ⟨0, Nat.zero_le _, rfl, Hnd, hb1'⟩
      case round =>
        clear hb1'
        obtain ⟨q, hq, rfl, hnb, hbr⟩ := hrel
        have hbt := bot hbel hbr
        have hbt' := bot HB0.out hbt
        have b0 := below_cell hbt a0 hz
        have hzr : w.heap.size < wr.heap.size := Nat.lt_of_lt_of_le hz hbt.size
        by_cases hlq : q < m
        · have hqy : q < es.length := by have := Hm.out; omega
          obtain ⟨b', oo', cs', rfl, _, hb2, ⟨rfl, _, hI1, hI2⟩, hcell'⟩ := (HE.out.below hbr (fun b h => h)).elem (List.getElem?_eq_getElem hqy)
          have d0 := hcell' 0 _ rfl
          have d1 := hcell' 1 _ rfl
          simp only [rEdge, Nat.add_zero] at d0 d1
          have Hae := Lib.hid (allL_at (q := edgeB n) hqy)
          have Hed : Hid (edgeB n es[q] = (decide (1 ≤ es[q].to) && decide (es[q].to < (n : Int)))) := rfl
          have bo : ∀ o : Obj, (wr.alloc o).cell? ⟨w.heap.size, 0, none⟩ = some (.slice (some ⟨b, oo, none⟩) n c) := fun o => below_cell (bal (Below.refl _ _) o) b0 hzr
          clear hcell'
          have hq0 : (0 : Int) ≤ (q : Int) := by omega
          have hqm : (q : Int) < (m : Int) := by omega
          generalize edgeB n es[q] = eb at *
          generalize es[q].to = tq at *
          generalize es[q].label = lb at *
          by_cases h1 : tq < 1
          · have hd : decide (tq < 1) = true := decide_eq_true h1
            have He : Hid (R = false) := by unfold Hid; rw [heq.out, Hat.out, hnb.out, Hae.out, Hed.out, decide_eq_false (by omega)]; rfl
            go_wp2_with fail
            go_ret
            exact ⟨ret_bool He.out.symm, bal hbt' _⟩
          · have hd : decide (tq < 1) = false := decide_eq_false h1
            by_cases h2 : (n : Int) ≤ tq
            · have hd2 : decide ((n : Int) ≤ tq) = true := decide_eq_true h2
              have He : Hid (R = false) := by unfold Hid; rw [heq.out, Hat.out, hnb.out, Hae.out, Hed.out, decide_eq_true (show 1 ≤ tq by omega), decide_eq_false (show ¬ tq < (n : Int) by omega)]; rfl
              go_wp2_with fail
              go_ret
              exact ⟨ret_bool He.out.symm, bal hbt' _⟩
            · have hd2 : decide ((n : Int) ≤ tq) = false := decide_eq_false h2
              have He : Hid (nb = (es.drop (q + 1)).all (edgeB n)) := by unfold Hid; rw [hnb.out, Hae.out, Hed.out, decide_eq_true (show 1 ≤ tq by omega), decide_eq_true (show tq < (n : Int) by omega)]; rfl
              clear hnb Hae Hed
              go_wp2_with fail
              go_roundw
              case rel => exact ⟨q + 1, by omega, by go_num, He, bal hbr _⟩
              case measure => simp [intOf]; omega
        · have Hnb : Hid (nb = true) := by unfold Hid; rw [hnb.out, List.drop_eq_nil_of_le (by have := Hm.out; omega)]; rfl
          have He : Hid (R = ((g.drop (k + 1)).all (nodeB n) && decide (0 < n))) := by unfold Hid; rw [heq.out, Hat.out, Hnb.out]; rfl
          clear heq Hat hnb Hnb
          go_wp2_with fail
          go_roundw
          case rel => exact ⟨k + 1, by omega, by go_num, He, hbt⟩
          case measure => simp [intOf]; omega
    · have He : Hid (R = decide (0 < n)) := by unfold Hid; rw [heq.out, List.drop_eq_nil_of_le (by have := Hnx.out; omega)]; rfl
      go_wp2_with fail
      go_ret
      exact ⟨ret_bool (by rw [He.out]), hbel'⟩
end Go.Proofs.YtkpbpnecmfadlaaGreatDoor
