/-
  walkup.formed: do a graph's edges lead to places?
  A path with a name more: the program's.
  walkup.Look.
  The map of a tree's lookups as a plain function, and what it keeps.
-/
import Derived.Test.YthbnmehbhpakaaaGreatDoorOn07
import Derived.Test.YthbnmehbhpakaaaGreatDoorOn02
import Derived.Test.YthbnmehbhpakaaaGreatDoorOn10
import Derived.Test.YthbnmehbhpakaaaGreatDoorOn08
import Derived.Deep.RegionHeld3
import Derived.Test.YthbnmehbhpakaaaGreatDoorOn14
set_option autoImplicit false
set_option relaxedAutoImplicit false
set_option linter.unusedVariables false
set_option linter.unusedSimpArgs false
namespace Go.Proofs.YthbnmehbhpakaaaGreatDoor
open Go.Rows Go.RowKit Go.Shelf Go.Sort

def edgeB (m : Nat) (e : Edge) : Bool := decide (1 ≤ e.to) && decide (e.to < (m : Int))
def nodeB (m : Nat) (x : Node) : Bool := x.edges.all (edgeB m)
def formedB (g : List Node) : Bool := g.all (nodeB g.length) && decide (0 < g.length)
theorem allL_at {α : Type} {q : α → Bool} {l : List α} {k : Nat} (h : k < l.length) : (l.drop k).all q = (q l[k] && (l.drop (k + 1)).all q) := by
  rw [List.drop_eq_getElem_cons h, List.all_cons]

set_option maxHeartbeats 3200000 in
set_option maxRecDepth 100000 in
theorem formed_any (A : Option Addr) (n c : Nat) (g : List Node) (w : World) (S : Nat → Prop) (hx : SlV rNode w S g (.slice A n c)) :
    Calls Tryz.prog 104 #[.agg #[.slice A n c]] w fun e w' => e = .returned (.bool (formedB g)) ∧ Below w.heap.size w w' := by
  have hnx := hx.n_eq
  have hcx := hx.cap_le
  unfold maxLen at hcx
  have hn63 : n ≤ 9223372036854775807 := by omega
  have HX := Lib.hid (hx.more (S' := fun b => b < w.heap.size) fun b _ h => h)
  have HR : Hid (formedB g = ((g.drop 0).all (nodeB n) && decide (0 < n))) := by unfold Hid formedB; rw [hnx]; rfl
  have Hnx := Lib.hid hnx; clear hnx
  clear hx hcx
  generalize formedB g = R at *
  go_enter Tryz.func104, Tryz.ntmps104
  go_wp2_with fail
  obtain ⟨w0, hw0⟩ : ∃ w0, w0 = w.alloc (.cells #[.slice A n c] 27) := ⟨_, rfl⟩
  have hz : w.heap.size < w0.heap.size := by rw [hw0]; simp [go_sem]
  have hb0 : Below w.heap.size w w0 := by rw [hw0]; exact bal (Below.refl _ _) _
  have a0 : w0.cell? ⟨w.heap.size, 0, none⟩ = some (.slice A n c) := by rw [hw0]; simp [go_sem]
  rw [← hw0]
  clear hw0
  have HB0 := Lib.hid hb0; clear hb0
  go_loopw [10] (fun i wr => ∃ k : Nat, k ≤ n ∧ i = .int .i64 k ∧ Hid (R = ((g.drop k).all (nodeB n) && decide (0 < n))) ∧ Below w0.heap.size w0 wr) (fun i _ => n - (intOf i).toNat)
  case atStart => exact ⟨0, Nat.zero_le _, rfl, HR, Below.refl _ _⟩
  case round =>
    obtain ⟨k, hk, rfl, heq, hbel⟩ := hrel
    have b0 := below_cell hbel a0 hz
    have hbel' := bot HB0.out hbel
    by_cases hlt : k < n
    · have hkx : k < g.length := by have := Hnx.out; omega
      obtain ⟨b, oo, cs, rfl, _, hb1, hh, hcell⟩ := (HX.out.below hbel' (fun b h => h)).elem (List.getElem?_eq_getElem hkx)
      have Hat := Lib.hid (allL_at (q := nodeB n) hkx)
      have Hnd : Hid (nodeB n g[k] = (g[k].edges.drop 0).all (edgeB n)) := rfl
      obtain ⟨s0, s1, rfl, _, _, _, _, hp1, hp2⟩ := hh
      obtain ⟨pA, pa, rfl, _, _⟩ := hp1.val
      obtain ⟨qA, qa, rfl, hq1, hq2⟩ := hp2.val
      unfold maxLen at hq2
      have c0 := hcell 0 _ rfl
      have c1 := hcell 1 _ rfl
      have c2 := hcell 2 _ rfl
      have c3 := hcell 3 _ rfl
      have c4 := hcell 4 _ rfl
      have c5 := hcell 5 _ rfl
      simp only [rNode, Nat.add_zero] at c0 c1 c2 c3 c4 c5
      have HE : Hid (SlV rEdge wr (fun b => b < wr.heap.size) g[k].edges (.slice qA g[k].edges.length qa)) := SlV.more hp2 (fun b _ h => h)
      clear hcell hp1 hp2
      have hk0 : (0 : Int) ≤ (k : Int) := by omega
      have hkn : (k : Int) < (n : Int) := by omega
      have hn0 : decide (0 < n) = true := decide_eq_true (by omega)
      generalize nodeB n g[k] = nb at *
      generalize g[k].ctx.length = l1 at *
      generalize g[k].name = nm at *
      generalize g[k].ver.major = y1 at *
      generalize g[k].ver.minor = y2 at *
      generalize g[k].ver.patch = y3 at *
      generalize g[k].edges = es at *
      generalize hl0 : es.length = m at *
      have Hm := Lib.hid hl0; clear hl0
      obtain ⟨wo, rfl⟩ : ∃ wo : World, wo = wr := ⟨_, rfl⟩
      go_wp2_with fail
      obtain ⟨w1, hw1⟩ : ∃ w1, w1 = wo.alloc (.cells #[.string nm, .int .i64 y1, .int .i64 y2, .int .i64 y3, .slice pA l1 pa, .slice qA m qa] 63) := ⟨_, rfl⟩
      have hb1' : Below wo.heap.size wo w1 := by rw [hw1]; exact bal (Below.refl _ _) _
      rw [← hw1]
      clear hw1 c0 c1 c2 c3 c4 c5 b0
      go_loopw [17] (fun i wr => ∃ q : Nat, q ≤ m ∧ i = .int .i64 q ∧ Hid (nb = (es.drop q).all (edgeB n)) ∧ Below wo.heap.size wo wr) (fun i _ => m - (intOf i).toNat)
      case atStart => exact ⟨0, Nat.zero_le _, rfl, Hnd, hb1'⟩
      case round =>
        clear hb1'
        obtain ⟨q, hq, rfl, hnb, hbr⟩ := hrel
        have hbt := bot hbel hbr
        have hbt' := bot HB0.out hbt
        have b0 := below_cell hbt a0 hz
        have hzr : w.heap.size < wr.heap.size := Nat.lt_of_lt_of_le hz hbt.size
        by_cases hlq : q < m
        · have hqy : q < es.length := by have := Hm.out; omega
          obtain ⟨b', oo', cs', rfl, _, hb2, ⟨rfl, _, hI1, hI2⟩, hcell'⟩ := (HE.out.below hbr (fun b h => h)).elem (List.getElem?_eq_getElem hqy)
          have d0 := hcell' 0 _ rfl
          have d1 := hcell' 1 _ rfl
          simp only [rEdge, Nat.add_zero] at d0 d1
          have Hae := Lib.hid (allL_at (q := edgeB n) hqy)
          have Hed : Hid (edgeB n es[q] = (decide (1 ≤ es[q].to) && decide (es[q].to < (n : Int)))) := rfl
          have bo : ∀ o : Obj, (wr.alloc o).cell? ⟨w.heap.size, 0, none⟩ = some (.slice (some ⟨b, oo, none⟩) n c) := fun o => below_cell (bal (Below.refl _ _) o) b0 hzr
          clear hcell'
          have hq0 : (0 : Int) ≤ (q : Int) := by omega
          have hqm : (q : Int) < (m : Int) := by omega
          generalize edgeB n es[q] = eb at *
          generalize es[q].to = tq at *
          generalize es[q].label = lb at *
          by_cases h1 : tq < 1
          · have hd : decide (tq < 1) = true := decide_eq_true h1
            have He : Hid (R = false) := by unfold Hid; rw [heq.out, Hat.out, hnb.out, Hae.out, Hed.out, decide_eq_false (by omega)]; rfl
            go_wp2_with fail
            go_ret
            exact ⟨ret_bool He.out.symm, bal hbt' _⟩
          · have hd : decide (tq < 1) = false := decide_eq_false h1
            by_cases h2 : (n : Int) ≤ tq
            · have hd2 : decide ((n : Int) ≤ tq) = true := decide_eq_true h2
              have He : Hid (R = false) := by unfold Hid; rw [heq.out, Hat.out, hnb.out, Hae.out, Hed.out, decide_eq_true (show 1 ≤ tq by omega), decide_eq_false (show ¬ tq < (n : Int) by omega)]; rfl
              go_wp2_with fail
              go_ret
              exact ⟨ret_bool He.out.symm, bal hbt' _⟩
            · have hd2 : decide ((n : Int) ≤ tq) = false := decide_eq_false h2
              have He : Hid (nb = (es.drop (q + 1)).all (edgeB n)) := by unfold Hid; rw [hnb.out, Hae.out, Hed.out, decide_eq_true (show 1 ≤ tq by omega), decide_eq_true (show tq < (n : Int) by omega)]; rfl
              clear hnb Hae Hed
              go_wp2_with fail
              go_roundw
              case rel => exact ⟨q + 1, by omega, by go_num, He, bal hbr _⟩
              case measure => simp [intOf]; omega
        · have Hnb : Hid (nb = true) := by unfold Hid; rw [hnb.out, List.drop_eq_nil_of_le (by have := Hm.out; omega)]; rfl
          have He : Hid (R = ((g.drop (k + 1)).all (nodeB n) && decide (0 < n))) := by unfold Hid; rw [heq.out, Hat.out, Hnb.out]; rfl
          clear heq Hat hnb Hnb
          go_wp2_with fail
          go_roundw
          case rel => exact ⟨k + 1, by omega, by go_num, He, hbt⟩
          case measure => simp [intOf]; omega
    · have He : Hid (R = decide (0 < n)) := by unfold Hid; rw [heq.out, List.drop_eq_nil_of_le (by have := Hnx.out; omega)]; rfl
      go_wp2_with fail
      go_ret
      exact ⟨ret_bool (by rw [He.out]), hbel'⟩
end Go.Proofs.YthbnmehbhpakaaaGreatDoor
set_option autoImplicit false
set_option relaxedAutoImplicit false
set_option linter.unusedVariables false
set_option linter.unusedSimpArgs false
namespace Go.Proofs.YthbnmehbhpakaaaGreatDoor
open Go.Rows Go.RowKit Go.Shelf Go.Sort

set_option maxHeartbeats 1600000 in
set_option maxRecDepth 100000 in
theorem joined_any (A : Option Addr) (n c : Nat) (l : List ByteArray) (s : ByteArray) (w : World) (S : Nat → Prop) (hs : s.size ≤ maxLen) (hlen : l.length * 32 ≤ 140737488355328) (hl : SlV rStr w S l (.slice A n c)) :
    Calls Tryz.prog 65 #[.slice A n c, .string s] w fun e w' => ∃ v, e = .returned v ∧ SlV rStr w' (fun _ => True) (l ++ [s]) v ∧ Below w.heap.size w w' := by
  have hm : maxLen = 9223372036854775807 := rfl
  have hnx := hl.n_eq
  have hn63 : n ≤ 9223372036854775807 := by omega
  obtain ⟨i, z, hi, hz, hsz, hby, hzs, hpos⟩ := elt_string
  have hHS := Lib.hid hs; clear hs
  have hnb : n ≤ 4398046511104 := by omega
  have Hnx := Lib.hid hnx; clear hnx
  go_enter Tryz.func65, Tryz.ntmps65
  go_wp2_with (at_make; refine wpList_make_own w (by rfl) _ _ _ (by rfl) w.heap.size 9 i z 1 Tryz.underlying53 hi hz hsz _ _ _ (n + 1) (by rfl) (by rfl) (by omega) (by rw [hby]; have := Hnx.out; omega) (by have := Hnx.out; omega) (Nat.le_refl _) ?_)
  intro w1 hown1 hgrow
  have HB1 : Hid (Below w.heap.size w w1) := (Below.refl _ _).grown hgrow (Nat.le_refl _) (fun k hk => by cases hk)
  have Hown1 : Hid (Own rStr w1 w.heap.size 9 (.slice (some ⟨w.heap.size, 0, none⟩) 0 (n + 1)) [] (fun _ => False)) := ⟨fun b hb => hb.elim, [], hown1, rfl⟩
  have Hl1 : Hid (SlV rStr w1 (fun b => b < w.heap.size) l (.slice A n c)) := (hl.more (S' := fun b => b < w.heap.size) fun b h1 h2 => h2).belowSize HB1.out
  have hw1 := HB1.out.size
  clear hown1 hgrow hl
  go_wp2_with (at_builtin; refine wpList_extend (by rfl) _ _ _ (by rfl) elt_string Tryz.underlying53 (by rfl) Hown1.out (fun b => b < w.heap.size) l _ _ _ (by rfl) Hl1.out (by intro b hb he; simp [Value.ownBlock] at he; omega) (by simp [maxLen]; omega) (by simp; omega) hw1 ?_)
  intro v2 w2 hown2 hgrow2 hat2
  have HB2 : Hid (Below w.heap.size w w2) := bgrown HB1.out hgrow2 Hown1.out (Nat.le_refl _)
  have Hown2 : Hid (Own rStr w2 w.heap.size 9 v2 l (fun b => b < w.heap.size ∧ b < w1.heap.size)) := hown2
  have hw2 := HB2.out.size
  have Hlen : Hid (l.length = n) := Hnx.out.symm
  clear hown2 hgrow2 hat2 Hown1 Hl1 hlen
  go_wp2_with (at_builtin; refine wpList_push (by rfl) _ _ _ (by rfl) elt_string Tryz.underlying53 (by rfl) (Hown2.out.alloc _) ⟨w2.heap.size, 0, none⟩ 1 [.string s] s (by rfl) ⟨rfl, hHS.out⟩ (news_of w2 #[.string s] _) (by rw [Hlen.out]; unfold maxLen; omega) (by rw [Hlen.out]; omega) (by simp; omega) (w2.heap.size + 1) (by simp) ?_)
  intro g9 cap9 w9 hown9 hgrow9 hat9 hlt9
  have HB9 := Lib.hid (bgrown (bal HB2.out _) hgrow9 (Hown2.out.alloc _) (Nat.le_refl _))
  have Hown9 := Lib.hid hown9
  clear hown9 hgrow9
  go_wp2_with fail
  go_ret
  exact ⟨_, rfl, Hown9.out.slv.more (fun b _ _ => trivial), HB9.out⟩
end Go.Proofs.YthbnmehbhpakaaaGreatDoor
/-
  A path with a name more: the document's.
-/
set_option autoImplicit false
set_option relaxedAutoImplicit false
set_option linter.unusedVariables false
set_option linter.unusedSimpArgs false
namespace Go.Proofs.YthbnmehbhpakaaaGreatDoor
open Go.Rows Go.RowKit Go.Shelf Go.Sort

end Go.Proofs.YthbnmehbhpakaaaGreatDoor
set_option autoImplicit false
set_option relaxedAutoImplicit false
set_option linter.unusedVariables false
set_option linter.unusedSimpArgs false
namespace Go.Proofs.YthbnmehbhpakaaaGreatDoor
open Go.Rows Go.RowKit Go.Shelf Go.Sort

/-- a lookup from a path of whose names the first q are left -/
noncomputable def lookDown (t : List Dir) (p : List ByteArray) (s : ByteArray) : Nat → Int
  | 0 => -1
  | q + 1 => bif decide (0 ≤ findI t (p.take q ++ [s])) then findI t (p.take q ++ [s]) else lookDown t p s q
noncomputable def lookI (t : List Dir) (i : Int) (s : ByteArray) : Int :=
  if h : 0 ≤ i ∧ i.toNat < t.length then (bif nameB s then lookDown t (t[i.toNat]'h.2).path s ((t[i.toNat]'h.2).path.length + 1) else -1) else -1

theorem keepL {w0 W W' : World} {a : Nat} {v : Value} (hb : Below W.heap.size W W') (hc : W.cell? ⟨a, 0, none⟩ = some v) (hB : Below w0.heap.size w0 W) (hz : a < w0.heap.size) : W'.cell? ⟨a, 0, none⟩ = some v ∧ Below w0.heap.size w0 W' :=
  ⟨below_cell hb hc (Nat.lt_of_lt_of_le hz hB.size), bot hB hb⟩

set_option maxHeartbeats 3200000 in
set_option maxRecDepth 100000 in
theorem look_any (A : Option Addr) (n c : Nat) (xs : List Dir) (s : ByteArray) (w : World) (S : Nat → Prop) (i : Int) (hs : s.size ≤ maxLen) (hlen : ∀ d ∈ xs, d.path.length * 32 ≤ 140737488355328) (hx : SlV rDir w S xs (.slice A n c)) :
    Calls Tryz.prog 19 #[.agg #[.slice A n c], .int .i64 i, .string s] w fun e w' => e = .returned (.int .i64 (lookI xs i s)) ∧ Below w.heap.size w w' := by
  have hnx := hx.n_eq
  have hcx := hx.cap_le
  unfold maxLen at hcx
  by_cases h0 : i < 0
  · have hd : decide (i < 0) = true := decide_eq_true h0
    have He : Hid (lookI xs i s = -1) := by unfold Hid lookI; rw [dif_neg (by omega)]
    clear hx hnx hcx hlen
    generalize lookI xs i s = R at *
    go_enter Tryz.func19, Tryz.ntmps19
    go_wp2_with fail
    go_ret
    exact ⟨ret_int He.out.symm, bal (Below.refl _ _) _⟩
  have hd : decide (i < 0) = false := decide_eq_false h0
  by_cases h1 : (n : Int) ≤ i
  · have hd1 : decide ((n : Int) ≤ i) = true := decide_eq_true h1
    have He : Hid (lookI xs i s = -1) := by unfold Hid lookI; rw [dif_neg (by omega)]
    clear hx hnx hcx hlen
    generalize lookI xs i s = R at *
    go_enter Tryz.func19, Tryz.ntmps19
    go_wp2_with fail
    go_ret
    exact ⟨ret_int He.out.symm, bal (Below.refl _ _) _⟩
  have hd1 : decide ((n : Int) ≤ i) = false := decide_eq_false h1
  obtain ⟨k, rfl⟩ : ∃ k : Nat, i = (k : Int) := ⟨i.toNat, by omega⟩
  have hk : k < xs.length := by omega
  have Hnm := Lib.hid (fun W => scanName_any s hs W)
  have HR : Hid (lookI xs (k : Int) s = bif nameB s then lookDown xs xs[k].path s (xs[k].path.length + 1) else -1) := by
    unfold Hid lookI; rw [dif_pos (by omega)]; simp only [Int.toNat_natCast]
  generalize lookI xs (k : Int) s = R at *
  have hkn : (k : Int) < (n : Int) := by omega
  have hk0 : (0 : Int) ≤ (k : Int) := by omega
  cases hnb : nameB s
  · have He : Hid (R = -1) := by unfold Hid; rw [HR.out, hnb]; rfl
    rw [hnb] at Hnm
    clear hx hnx hcx hlen hnb HR
    go_enter Tryz.func19, Tryz.ntmps19
    go_wp2_with fail
    refine (Hnm.out _).mono ?_
    rintro e w1 ⟨rfl, B1⟩
    go_wp2_with fail
    go_ret
    exact ⟨ret_int He.out.symm, bnew B1⟩
  rw [hnb] at Hnm
  have HR1 : Hid (R = lookDown xs xs[k].path s (xs[k].path.length + 1)) := by unfold Hid; rw [HR.out, hnb]; rfl
  clear HR hnb
  have hlk := hlen xs[k] (List.getElem_mem hk)
  have HX := Lib.hid hx
  have HS := Lib.hid hs
  obtain ⟨b, o, cs, rfl, _, hb1, hh, hcell⟩ := hx.elem (List.getElem?_eq_getElem hk)
  obtain ⟨s0, s1, s2, s3, rfl, hp, _, _, _, _, _, _, _, _⟩ := hh
  obtain ⟨pA, pc, rfl, hpl, hpm⟩ := hp.val
  unfold maxLen at hpm
  have c0 := hcell 0 _ rfl
  simp only [rDir, Nat.add_zero] at c0
  have HP := Lib.hid hp
  clear hcell hp hx hs hlen hcx hnx
  generalize xs[k].path = path at *
  generalize hl0 : path.length = l0 at *
  have Hl0 := Lib.hid hl0; clear hl0
  go_enter Tryz.func19, Tryz.ntmps19
  go_wp2_with fail
  obtain ⟨w0, hw0⟩ : ∃ w0, w0 = w.alloc (.cells #[.slice (some ⟨b, o, none⟩) n c] 30) := ⟨_, rfl⟩
  have hz : w.heap.size < w0.heap.size := by rw [hw0]; simp [go_sem]
  have hb0 : Below w.heap.size w w0 := by rw [hw0]; exact bal (Below.refl _ _) _
  have a0 : w0.cell? ⟨w.heap.size, 0, none⟩ = some (.slice (some ⟨b, o, none⟩) n c) := by rw [hw0]; simp [go_sem]
  rw [← hw0]
  have HB0 := Lib.hid hb0; clear hb0 hw0
  refine (Hnm.out w0).mono ?_
  rintro e w1 ⟨rfl, B1⟩
  have Q1 := Lib.hid B1; clear B1 Hnm
  have e0 := below_cell (bot HB0.out Q1.out) c0 hb1
  have e1 := below_cell Q1.out a0 hz
  go_wp2_with fail
  clear e0 e1
  go_loopw [8] (fun i wr => ((i = .int .i64 (-1) ∧ Hid (R = -1)) ∨ ∃ q : Nat, q ≤ l0 ∧ i = .int .i64 q ∧ Hid (R = lookDown xs path s (q + 1))) ∧ Below w0.heap.size w0 wr) (fun i _ => (intOf i + 1).toNat)
  case atStart => exact ⟨.inr ⟨l0, Nat.le_refl _, rfl, HR1⟩, Q1.out⟩
  case round =>
    obtain ⟨hor, hbel⟩ := hrel
    have b0 := below_cell hbel a0 hz
    have hbel' := bot HB0.out hbel
    rcases hor with ⟨rfl, He⟩ | ⟨q, hq, rfl, HRq⟩
    · go_wp2_with fail
      go_ret
      exact ⟨ret_int He.out.symm, hbel'⟩
    · have hq0 : (0 : Int) ≤ (q : Int) := by omega
      have hqc : q ≤ pc := by omega
      have hw2 : IntKind.i64.wrap (q : Int) = (q : Int) := IntWalk.i64_in _ ⟨by omega, by omega⟩
      go_wp2_with fail
      have Hj : Hid (∀ W, Below w0.heap.size w0 W → Calls Tryz.prog 65 #[.slice pA q pc, .string s] W fun e w' => ∃ v, e = .returned v ∧ SlV rStr w' (fun _ => True) (path.take q ++ [s]) v ∧ Below W.heap.size W w') := fun W hW =>
        joined_any pA q pc (path.take q) s W _ HS.out (by rw [List.length_take]; omega) (SlV.take (HP.out.belowSize (bot HB0.out hW)) (by rw [Hl0.out]; exact hq))
      have Hf : Hid (∀ W vA m vc, Below w0.heap.size w0 W → SlV rStr W (fun _ => True) (path.take q ++ [s]) (.slice vA m vc) → Calls Tryz.prog 64 #[.agg #[.slice (some ⟨b, o, none⟩) n c], .slice vA m vc] W fun e w' => e = .returned (.int .i64 (findI xs (path.take q ++ [s]))) ∧ Below W.heap.size W w') := fun W vA m vc hW hv =>
        find_any _ _ _ _ _ _ xs _ W _ _ (HX.out.belowSize (bot HB0.out hW)) hv
      have Hst : Hid (lookDown xs path s (q + 1) = bif decide (0 ≤ findI xs (path.take q ++ [s])) then findI xs (path.take q ++ [s]) else lookDown xs path s q) := rfl
      generalize findI xs (path.take q ++ [s]) = f at *
      generalize path.take q ++ [s] = jp at *
      generalize lookDown xs path s (q + 1) = LD at *
      go_region_held3 (fun w' => w'.cell? ⟨w.heap.size, 0, none⟩ = some (.slice (some ⟨b, o, none⟩) n c) ∧ Below w0.heap.size w0 w')
        (first
          | exact ⟨b0, hbel.drew⟩
          | (go_split_ands; exact keepL (by assumption) (by assumption) (by assumption) hz))
        (first
          | (go_at_call 65; go_split_ands; with_reducible refine (Hj.out _ (by assumption)).mono ?_; rintro e w2 ⟨v, rfl, hv, hb2⟩; obtain ⟨vA, vc, rfl, _, _⟩ := hv.val)
          | (go_at_call 64; go_split_ands; with_reducible refine (Hf.out _ _ _ _ (by assumption) (by assumption)).mono ?_; rintro e w3 ⟨rfl, hb3⟩))
      all_goals
        have HBw : Hid (Below w0.heap.size w0 w3) := by (go_split_ands; assumption)
        have HRr : Hid (R = bif decide (0 ≤ f) then f else lookDown xs path s q) := HRq.out.trans Hst.out
        by_cases hf : 0 ≤ f
        · have He : Hid (R = f) := by unfold Hid; rw [HRr.out, decide_eq_true hf]; rfl
          go_wp2_with fail
          go_ret
          exact ⟨ret_int He.out.symm, bot HB0.out HBw.out⟩
        · have hfk : decide (0 ≤ f) = false := decide_eq_false hf
          have He : Hid (R = lookDown xs path s q) := by unfold Hid; rw [HRr.out, hfk]; rfl
          have hwm : IntKind.i64.wrap ((q : Int) - 1) = (q : Int) - 1 := IntWalk.i64_in _ ⟨by omega, by omega⟩
          clear hf HRr
          go_wp2_with fail
          go_roundw
          case rel =>
            refine ⟨?_, HBw.out⟩
            by_cases hq00 : q = 0
            · exact .inl ⟨by simp [hq00], by unfold Hid; rw [He.out, hq00]; rfl⟩
            · obtain ⟨q', rfl⟩ : ∃ q', q = q' + 1 := ⟨q - 1, by omega⟩
              exact .inr ⟨q', by omega, by congr 1; omega, He⟩
          case measure => simp [intOf]
end Go.Proofs.YthbnmehbhpakaaaGreatDoor
/-
  The document's Look.
-/
set_option autoImplicit false
set_option relaxedAutoImplicit false
set_option linter.unusedVariables false
set_option linter.unusedSimpArgs false
namespace Go.Proofs.YthbnmehbhpakaaaGreatDoor
open Go.Rows Go.RowKit Go.Shelf Go.Sort

end Go.Proofs.YthbnmehbhpakaaaGreatDoor
set_option autoImplicit false
set_option relaxedAutoImplicit false
set_option linter.unusedVariables false
set_option linter.unusedSimpArgs false
namespace Go.Proofs.YthbnmehbhpakaaaGreatDoor
open Go.Rows Go.RowKit Go.Shelf Go.Sort

theorem findI_range (t : List Dir) (p : List ByteArray) : -1 ≤ findI t p ∧ findI t p < (t.length : Int) := by
  unfold findI
  rcases firstI_lt (fun d => eqB d.path p) t with h | ⟨j, h, hj, _⟩
  · rw [h.1]; omega
  · rw [h]; omega
theorem lookDown_range (t : List Dir) (p : List ByteArray) (s : ByteArray) : ∀ q, -1 ≤ lookDown t p s q ∧ lookDown t p s q < (t.length : Int) := by
  intro q
  induction q with
  | zero => unfold lookDown; omega
  | succ q ih =>
    unfold lookDown
    cases decide (0 ≤ findI t (p.take q ++ [s]))
    · exact ih
    · exact findI_range _ _
theorem lookI_range (t : List Dir) (i : Int) (s : ByteArray) : -1 ≤ lookI t i s ∧ lookI t i s < (t.length : Int) := by
  unfold lookI
  split
  · cases nameB s
    · show (-1 : Int) ≤ -1 ∧ (-1 : Int) < t.length; omega
    · exact lookDown_range _ _ _ _
  · omega

/-- which node a directory's package is -/
noncomputable def packIs (t : List Dir) (g : List Node) (q : Nat) (e : Nat) : Bool :=
  match t[q]?, g[e]? with
  | some d, some x => decide (d.pack.name = x.name) && eqB d.pack.ver x.ver
  | _, _ => false
theorem packIs_at {t : List Dir} {g : List Node} {q e : Nat} (h1 : q < t.length) (h2 : e < g.length) : packIs t g q e = (decide (t[q].pack.name = g[e].name) && eqB t[q].pack.ver g[e].ver) := by
  unfold packIs; rw [List.getElem?_eq_getElem h1, List.getElem?_eq_getElem h2]

abbrev MSt := List Int × List Nat
noncomputable def mapEdge (t : List Dir) (g : List Node) (a : Nat) (s : MSt) (e : Edge) : Option MSt :=
  if 0 ≤ lookI t a e.label ∧ packIs t g (lookI t a e.label).toNat e.to.toNat = true then
    (if s.1[(lookI t a e.label).toNat]? = some (-1) then some (s.1.set (lookI t a e.label).toNat e.to, s.2 ++ [(lookI t a e.label).toNat])
     else if s.1[(lookI t a e.label).toNat]? = some e.to then some s else none)
  else none
noncomputable def mapEdges (t : List Dir) (g : List Node) (a : Nat) : List Edge → MSt → Option MSt
  | [], s => some s
  | e :: es, s => match mapEdge t g a s e with
    | none => none
    | some s' => mapEdges t g a es s'
def edgesOf (g : List Node) (i : Int) : List Edge := match g[i.toNat]? with | some x => x.edges | none => []
noncomputable def mapLoop (t : List Dir) (g : List Node) : Nat → MSt → Option (List Int)
  | 0, _ => none
  | _ + 1, (m, []) => some m
  | f + 1, (m, a :: rest) => match mapEdges t g a (edgesOf g (m.getD a 0)) (m, rest) with
    | none => none
    | some s => mapLoop t g f s
noncomputable def mapNext (t : List Dir) (g : List Node) (f : Nat) : Option MSt → Option (List Int)
  | none => none
  | some s => mapLoop t g f s
theorem mapLoop_cons (t : List Dir) (g : List Node) (f : Nat) (m : List Int) (a : Nat) (rest : List Nat) : mapLoop t g (f + 1) (m, a :: rest) = mapNext t g f (mapEdges t g a (edgesOf g (m.getD a 0)) (m, rest)) := by
  rw [mapLoop]; cases mapEdges t g a (edgesOf g (m.getD a 0)) (m, rest) <;> rfl
theorem mapEdges_at (t : List Dir) (g : List Node) (a : Nat) {es : List Edge} {k : Nat} (h : k < es.length) (s : MSt) : mapEdges t g a (es.drop k) s = match mapEdge t g a s es[k] with | none => none | some s' => mapEdges t g a (es.drop (k + 1)) s' := by
  rw [List.drop_eq_getElem_cons h, mapEdges]
noncomputable def map0 (n : Nat) : MSt := (0 :: List.replicate (n - 1) (-1), [0])
/-- the answer: the map and the errno -/
noncomputable def mapR (t : List Dir) (g : List Node) : Option (List Int) × Int :=
  if checkE t ≠ 0 then (none, 42)
  else if formedB g = false then (none, 33)
  else match mapLoop t g (t.length + 1) (map0 t.length) with
    | none => (none, 42)
    | some m => (some m, 0)

/-- how many directories have no node yet -/
def freeN (m : List Int) : Nat := m.count (-1)
structure MInv (n : Nat) (gl : Nat) (s : MSt) : Prop where
  len : s.1.length = n
  rng : ∀ x ∈ s.1, -1 ≤ x ∧ x < (gl : Int)
  rest : ∀ r ∈ s.2, ∃ x, s.1[r]? = some x ∧ 0 ≤ x
theorem count_set_free : ∀ (m : List Int) (q : Nat) (v : Int), m[q]? = some (-1) → v ≠ -1 → freeN (m.set q v) + 1 = freeN m := by
  intro m
  induction m with
  | nil => intro q v h _; simp at h
  | cons x m ih =>
    intro q v h hv
    cases q with
    | zero =>
      simp at h
      subst h
      unfold freeN
      rw [List.set_cons_zero, List.count_cons_self, List.count_cons_of_ne hv]
    | succ q =>
      simp at h
      have := ih q v h hv
      unfold freeN at this ⊢
      rw [List.set_cons_succ, List.count_cons, List.count_cons]
      omega
theorem MInv.edge {n : Nat} {t : List Dir} {g : List Node} {a : Nat} {s s' : MSt} {e : Edge} (h : MInv n g.length s) (he : edgeB g.length e = true) (hm : mapEdge t g a s e = some s') :
    MInv n g.length s' ∧ freeN s'.1 + s'.2.length = freeN s.1 + s.2.length ∧ (∀ (r : Nat) (x : Int), s.1[r]? = some x → 0 ≤ x → s'.1[r]? = some x) := by
  unfold edgeB at he
  simp only [Bool.and_eq_true, decide_eq_true_eq] at he
  unfold mapEdge at hm
  split at hm
  · split at hm
    · rename_i hc hf
      injection hm with hm
      subst hm
      have hkeep : ∀ (r : Nat) (x : Int), s.1[r]? = some x → 0 ≤ x → (s.1.set (lookI t a e.label).toNat e.to)[r]? = some x := fun r x hr hx => by
        rw [List.getElem?_set_ne (by rintro rfl; rw [hf] at hr; injection hr with hr; omega)]; exact hr
      refine ⟨⟨by simpa using h.len, fun x hx => ?_, fun r hr => ?_⟩, ?_, hkeep⟩
      · rcases List.mem_or_eq_of_mem_set hx with hx | rfl
        · exact h.rng x hx
        · omega
      · rw [List.mem_append] at hr
        rcases hr with hr | hr
        · obtain ⟨x, h1, h2⟩ := h.rest r hr
          exact ⟨x, hkeep r x h1 h2, h2⟩
        · simp at hr
          subst hr
          refine ⟨e.to, ?_, by omega⟩
          rw [List.getElem?_set_self (List.getElem?_eq_some_iff.1 hf).1]
      · have := count_set_free s.1 _ e.to hf (by omega)
        show freeN (s.1.set _ e.to) + (s.2 ++ [_]).length = _
        rw [List.length_append, List.length_singleton]
        omega
    · split at hm
      · injection hm with hm
        subst hm
        exact ⟨h, rfl, fun _ _ h _ => h⟩
      · cases hm
  · cases hm
theorem MInv.edges {n : Nat} {t : List Dir} {g : List Node} {a : Nat} : ∀ {es : List Edge} {s s' : MSt}, MInv n g.length s → es.all (edgeB g.length) = true → mapEdges t g a es s = some s' →
    MInv n g.length s' ∧ freeN s'.1 + s'.2.length = freeN s.1 + s.2.length ∧ (∀ (r : Nat) (x : Int), s.1[r]? = some x → 0 ≤ x → s'.1[r]? = some x) := by
  intro es
  induction es with
  | nil => intro s s' h _ hm; rw [mapEdges] at hm; injection hm with hm; subst hm; exact ⟨h, rfl, fun _ _ h _ => h⟩
  | cons e es ih =>
    intro s s' h ha hm
    rw [List.all_cons, Bool.and_eq_true] at ha
    rw [mapEdges] at hm
    split at hm
    · cases hm
    · rename_i s1 hs1
      obtain ⟨h1, h2, h3⟩ := h.edge ha.1 hs1
      obtain ⟨h4, h5, h6⟩ := ih h1 ha.2 hm
      exact ⟨h4, by omega, fun r x hr hx => h6 r x (h3 r x hr hx) hx⟩
theorem MInv.start {n gl : Nat} (hn : 0 < n) (hg : 0 < gl) : MInv n gl (map0 n) ∧ freeN (map0 n).1 + (map0 n).2.length = n := by
  refine ⟨⟨by simp [map0]; omega, fun x hx => ?_, fun r hr => ?_⟩, ?_⟩
  · simp [map0] at hx
    rcases hx with rfl | ⟨_, rfl⟩ <;> omega
  · simp [map0] at hr
    subst hr
    exact ⟨0, rfl, Int.le_refl _⟩
  · simp [map0, freeN]
    omega
theorem formed_edges {g : List Node} (h : formedB g = true) : 0 < g.length ∧ ∀ x ∈ g, x.edges.all (edgeB g.length) = true := by
  unfold formedB at h
  simp only [Bool.and_eq_true, decide_eq_true_eq, List.all_eq_true] at h
  exact ⟨h.2, fun x hx => h.1 x hx⟩
theorem edgesOf_all {g : List Node} (h : formedB g = true) (i : Int) : (edgesOf g i).all (edgeB g.length) = true := by
  unfold edgesOf
  split
  · rename_i x hx
    exact (formed_edges h).2 x (List.mem_of_getElem? hx)
  · rfl
end Go.Proofs.YthbnmehbhpakaaaGreatDoor
