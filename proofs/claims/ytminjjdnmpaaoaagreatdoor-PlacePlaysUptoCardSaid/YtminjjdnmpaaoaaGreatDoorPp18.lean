/-
  A path with a name more: the program's.
  walkup.Look.
  A row of ints of the call's own, told by its cells: it is read, written at its places, appended to, and its head moves on.
-/
import Derived.Test.YtminjjdnmpaaoaaGreatDoorPp12
import Derived.Test.YtminjjdnmpaaoaaGreatDoorPp09
import Derived.Test.YtminjjdnmpaaoaaGreatDoorPp07
import Derived.Test.YtminjjdnmpaaoaaGreatDoorPp08
import Derived.Deep.RegionHeld3
import Derived.Test.YtminjjdnmpaaoaaGreatDoorPp04
import Derived.Laws.OwnMore
import Derived.Deep.AppendSrc
import Derived.Deep.Upon
set_option autoImplicit false
set_option relaxedAutoImplicit false
set_option linter.unusedVariables false
set_option linter.unusedSimpArgs false
namespace Go.Proofs.YtminjjdnmpaaoaaGreatDoor
open Go.Rows Go.RowKit Go.Shelf Go.Sort

set_option maxHeartbeats 1600000 in
set_option maxRecDepth 100000 in
theorem joined_any (A : Option Addr) (n c : Nat) (l : List ByteArray) (s : ByteArray) (w : World) (S : Nat → Prop) (hs : s.size ≤ maxLen) (hlen : l.length * 32 ≤ 140737488355328) (hl : SlV rStr w S l (.slice A n c)) :
    Calls Tryz.prog 37 #[.slice A n c, .string s] w fun e w' => ∃ v, e = .returned v ∧ SlV rStr w' (fun _ => True) (l ++ [s]) v ∧ Below w.heap.size w w' := by
  have hm : maxLen = 9223372036854775807 := rfl
  have hnx := hl.n_eq
  have hn63 : n ≤ 9223372036854775807 := by omega
  obtain ⟨i, z, hi, hz, hsz, hby, hzs, hpos⟩ := elt_string
  have hHS := Lib.hid hs; clear hs
  have hnb : n ≤ 4398046511104 := by omega
  have Hnx := Lib.hid hnx; clear hnx
  go_enter Tryz.func37, Tryz.ntmps37
  go_wp2_with (at_make; refine wpList_make_own w (by rfl) _ _ _ (by rfl) w.heap.size 9 i z 1 Tryz.underlying48 hi hz hsz _ _ _ (n + 1) (by rfl) (by rfl) (by omega) (by rw [hby]; have := Hnx.out; omega) (by have := Hnx.out; omega) (Nat.le_refl _) ?_)
  intro w1 hown1 hgrow
  have HB1 : Hid (Below w.heap.size w w1) := (Below.refl _ _).grown hgrow (Nat.le_refl _) (fun k hk => by cases hk)
  have Hown1 : Hid (Own rStr w1 w.heap.size 9 (.slice (some ⟨w.heap.size, 0, none⟩) 0 (n + 1)) [] (fun _ => False)) := ⟨fun b hb => hb.elim, [], hown1, rfl⟩
  have Hl1 : Hid (SlV rStr w1 (fun b => b < w.heap.size) l (.slice A n c)) := (hl.more (S' := fun b => b < w.heap.size) fun b h1 h2 => h2).belowSize HB1.out
  have hw1 := HB1.out.size
  clear hown1 hgrow hl
  go_wp2_with (at_builtin; refine wpList_extend (by rfl) _ _ _ (by rfl) elt_string Tryz.underlying48 (by rfl) Hown1.out (fun b => b < w.heap.size) l _ _ _ (by rfl) Hl1.out (by intro b hb he; simp [Value.ownBlock] at he; omega) (by simp [maxLen]; omega) (by simp; omega) hw1 ?_)
  intro v2 w2 hown2 hgrow2 hat2
  have HB2 : Hid (Below w.heap.size w w2) := bgrown HB1.out hgrow2 Hown1.out (Nat.le_refl _)
  have Hown2 : Hid (Own rStr w2 w.heap.size 9 v2 l (fun b => b < w.heap.size ∧ b < w1.heap.size)) := hown2
  have hw2 := HB2.out.size
  have Hlen : Hid (l.length = n) := Hnx.out.symm
  clear hown2 hgrow2 hat2 Hown1 Hl1 hlen
  go_wp2_with (at_builtin; refine wpList_push (by rfl) _ _ _ (by rfl) elt_string Tryz.underlying48 (by rfl) (Hown2.out.alloc _) ⟨w2.heap.size, 0, none⟩ 1 [.string s] s (by rfl) ⟨rfl, hHS.out⟩ (news_of w2 #[.string s] _) (by rw [Hlen.out]; unfold maxLen; omega) (by rw [Hlen.out]; omega) (by simp; omega) (w2.heap.size + 1) (by simp) ?_)
  intro g9 cap9 w9 hown9 hgrow9 hat9 hlt9
  have HB9 := Lib.hid (bgrown (bal HB2.out _) hgrow9 (Hown2.out.alloc _) (Nat.le_refl _))
  have Hown9 := Lib.hid hown9
  clear hown9 hgrow9
  go_wp2_with fail
  go_ret
  exact ⟨_, rfl, Hown9.out.slv.more (fun b _ _ => trivial), HB9.out⟩
end Go.Proofs.YtminjjdnmpaaoaaGreatDoor
/-
  A path with a name more: the document's.
-/
set_option autoImplicit false
set_option relaxedAutoImplicit false
set_option linter.unusedVariables false
set_option linter.unusedSimpArgs false
namespace Go.Proofs.YtminjjdnmpaaoaaGreatDoor
open Go.Rows Go.RowKit Go.Shelf Go.Sort

set_option maxHeartbeats 1600000 in
set_option maxRecDepth 100000 in
theorem refJoined_any (A : Option Addr) (n c : Nat) (l : List ByteArray) (s : ByteArray) (w : World) (S : Nat → Prop) (hs : s.size ≤ maxLen) (hlen : l.length * 32 ≤ 140737488355328) (hl : SlV rStr w S l (.slice A n c)) :
    Calls Tryz.prog 98 #[.slice A n c, .string s] w fun e w' => ∃ v, e = .returned v ∧ SlV rStr w' (fun _ => True) (l ++ [s]) v ∧ Below w.heap.size w w' := by
  have hm : maxLen = 9223372036854775807 := rfl
  have HS := Lib.hid hs; clear hs
  have HL := Lib.hid hlen
  go_enter Tryz.func98, Tryz.ntmps98
  go_wp2_with (at_builtin; refine wpList_extend (by rfl) _ _ _ (by rfl) elt_string Tryz.underlying48 (by rfl) (Own.nil_ rStr w w.heap.size 9 (S := fun _ => False) (fun b h => h.elim)) (fun b => b < w.heap.size) l _ _ _ (by rfl) (hl.more fun b h1 h2 => h2) (by intro b hb he; simp [Value.ownBlock] at he) (by simp [maxLen]; omega) (by simp; omega) (by simp) ?_)
  intro v1 w1 hown1 hgrow hat
  have HB1 : Hid (Below w.heap.size w w1) := (Below.refl _ _).grown hgrow (Nat.le_refl _) (fun k hk => by simp [Value.ownBlock] at hk)
  have Hown1 : Hid (Own rStr w1 w.heap.size 9 v1 l (fun b => b < w.heap.size)) := hown1
  have hw1 := HB1.out.size
  clear hown1 hgrow hat hl
  obtain ⟨k, hk⟩ : ∃ k : Nat, l.length = k := ⟨_, rfl⟩
  have Hlen : Hid (l.length = k) := hk
  rw [hk] at hlen
  clear hk
  go_wp2_with (at_builtin; refine wpList_push (by rfl) _ _ _ (by rfl) elt_string Tryz.underlying48 (by rfl) (Hown1.out.alloc _) ⟨w1.heap.size, 0, none⟩ 1 [.string s] s (by rfl) ⟨rfl, HS.out⟩ (news_of w1 #[.string s] _) (by rw [Hlen.out]; unfold maxLen; omega) (by rw [Hlen.out]; omega) (by simp; omega) (w1.heap.size + 1) (by simp) ?_)
  intro g9 cap9 w9 hown9 hgrow9 hat9 hlt9
  have HB9 := Lib.hid (bgrown (bal HB1.out _) hgrow9 (Hown1.out.alloc _) (Nat.le_refl _))
  have Hown9 := Lib.hid hown9
  clear hown9 hgrow9
  go_wp2_with fail
  go_ret
  exact ⟨_, rfl, Hown9.out.slv.more (fun b _ _ => trivial), HB9.out⟩

end Go.Proofs.YtminjjdnmpaaoaaGreatDoor
set_option autoImplicit false
set_option relaxedAutoImplicit false
set_option linter.unusedVariables false
set_option linter.unusedSimpArgs false
namespace Go.Proofs.YtminjjdnmpaaoaaGreatDoor
open Go.Rows Go.RowKit Go.Shelf Go.Sort

/-- a lookup from a path of whose names the first q are left -/
noncomputable def lookDown (t : List Dir) (p : List ByteArray) (s : ByteArray) : Nat → Int
  | 0 => -1
  | q + 1 => bif decide (0 ≤ findI t (p.take q ++ [s])) then findI t (p.take q ++ [s]) else lookDown t p s q
noncomputable def lookI (t : List Dir) (i : Int) (s : ByteArray) : Int :=
  if h : 0 ≤ i ∧ i.toNat < t.length then (bif nameB s then lookDown t (t[i.toNat]'h.2).path s ((t[i.toNat]'h.2).path.length + 1) else -1) else -1

theorem keepL {w0 W W' : World} {a : Nat} {v : Value} (hb : Below W.heap.size W W') (hc : W.cell? ⟨a, 0, none⟩ = some v) (hB : Below w0.heap.size w0 W) (hz : a < w0.heap.size) : W'.cell? ⟨a, 0, none⟩ = some v ∧ Below w0.heap.size w0 W' :=
  ⟨below_cell hb hc (Nat.lt_of_lt_of_le hz hB.size), bot hB hb⟩

set_option maxHeartbeats 3200000 in
set_option maxRecDepth 100000 in
theorem look_any (A : Option Addr) (n c : Nat) (xs : List Dir) (s : ByteArray) (w : World) (S : Nat → Prop) (i : Int) (hs : s.size ≤ maxLen) (hlen : ∀ d ∈ xs, d.path.length * 32 ≤ 140737488355328) (hx : SlV rDir w S xs (.slice A n c)) :
    Calls Tryz.prog 17 #[.agg #[.slice A n c], .int .i64 i, .string s] w fun e w' => e = .returned (.int .i64 (lookI xs i s)) ∧ Below w.heap.size w w' := by
  have hnx := hx.n_eq
  have hcx := hx.cap_le
  unfold maxLen at hcx
  by_cases h0 : i < 0
  · have hd : decide (i < 0) = true := decide_eq_true h0
    have He : Hid (lookI xs i s = -1) := by unfold Hid lookI; rw [dif_neg (by omega)]
    clear hx hnx hcx hlen
    generalize lookI xs i s = R at *
    go_enter Tryz.func17, Tryz.ntmps17
    go_wp2_with fail
    go_ret
    exact ⟨ret_int He.out.symm, bal (Below.refl _ _) _⟩
  have hd : decide (i < 0) = false := decide_eq_false h0
  by_cases h1 : (n : Int) ≤ i
  · have hd1 : decide ((n : Int) ≤ i) = true := decide_eq_true h1
    have He : Hid (lookI xs i s = -1) := by unfold Hid lookI; rw [dif_neg (by omega)]
    clear hx hnx hcx hlen
    generalize lookI xs i s = R at *
    go_enter Tryz.func17, Tryz.ntmps17
    go_wp2_with fail
    go_ret
    exact ⟨ret_int He.out.symm, bal (Below.refl _ _) _⟩
  have hd1 : decide ((n : Int) ≤ i) = false := decide_eq_false h1
  obtain ⟨k, rfl⟩ : ∃ k : Nat, i = (k : Int) := ⟨i.toNat, by omega⟩
  have hk : k < xs.length := by omega
  have Hnm := Lib.hid (fun W => scanName_any s hs W)
  have HR : Hid (lookI xs (k : Int) s = bif nameB s then lookDown xs xs[k].path s (xs[k].path.length + 1) else -1) := by
    unfold Hid lookI; rw [dif_pos (by omega)]; simp only [Int.toNat_natCast]
  generalize lookI xs (k : Int) s = R at *
  have hkn : (k : Int) < (n : Int) := by omega
  have hk0 : (0 : Int) ≤ (k : Int) := by omega
  cases hnb : nameB s
  · have He : Hid (R = -1) := by unfold Hid; rw [HR.out, hnb]; rfl
    rw [hnb] at Hnm
    clear hx hnx hcx hlen hnb HR
    go_enter Tryz.func17, Tryz.ntmps17
    go_wp2_with fail
    refine (Hnm.out _).mono ?_
    rintro e w1 ⟨rfl, B1⟩
    go_wp2_with fail
    go_ret
    exact ⟨ret_int He.out.symm, bnew B1⟩
  rw [hnb] at Hnm
  have HR1 : Hid (R = lookDown xs xs[k].path s (xs[k].path.length + 1)) := by unfold Hid; rw [HR.out, hnb]; rfl
  clear HR hnb
  have hlk := hlen xs[k] (List.getElem_mem hk)
  have HX := Lib.hid hx
  have HS := Lib.hid hs
  obtain ⟨b, o, cs, rfl, _, hb1, hh, hcell⟩ := hx.elem (List.getElem?_eq_getElem hk)
  obtain ⟨s0, s1, s2, s3, rfl, hp, _, _, _, _, _, _, _, _⟩ := hh
  obtain ⟨pA, pc, rfl, hpl, hpm⟩ := hp.val
  unfold maxLen at hpm
  have c0 := hcell 0 _ rfl
  simp only [rDir, Nat.add_zero] at c0
  have HP := Lib.hid hp
  clear hcell hp hx hs hlen hcx hnx
  generalize xs[k].path = path at *
  generalize hl0 : path.length = l0 at *
  have Hl0 := Lib.hid hl0; clear hl0
  go_enter Tryz.func17, Tryz.ntmps17
  go_wp2_with fail
  obtain ⟨w0, hw0⟩ : ∃ w0, w0 = w.alloc (.cells #[.slice (some ⟨b, o, none⟩) n c] 33) := ⟨_, rfl⟩
  have hz : w.heap.size < w0.heap.size := by rw [hw0]; simp [go_sem]
  have hb0 : Below w.heap.size w w0 := by rw [hw0]; exact bal (Below.refl _ _) _
  have a0 : w0.cell? ⟨w.heap.size, 0, none⟩ = some (.slice (some ⟨b, o, none⟩) n c) := by rw [hw0]; simp [go_sem]
  rw [← hw0]
  have HB0 := Lib.hid hb0; clear hb0 hw0
  refine (Hnm.out w0).mono ?_
  rintro e w1 ⟨rfl, B1⟩
  have Q1 := Lib.hid B1; clear B1 Hnm
  have e0 := below_cell (bot HB0.out Q1.out) c0 hb1
  have e1 := below_cell Q1.out a0 hz
  go_wp2_with fail
  clear e0 e1
  go_loopw [8] (fun i wr => ((i = .int .i64 (-1) ∧ Hid (R = -1)) ∨ ∃ q : Nat, q ≤ l0 ∧ i = .int .i64 q ∧ Hid (R = lookDown xs path s (q + 1))) ∧ Below w0.heap.size w0 wr) (fun i _ => (intOf i + 1).toNat)
  case atStart => exact ⟨.inr ⟨l0, Nat.le_refl _, rfl, HR1⟩, Q1.out⟩
  case round =>
    obtain ⟨hor, hbel⟩ := hrel
    have b0 := below_cell hbel a0 hz
    have hbel' := bot HB0.out hbel
    rcases hor with ⟨rfl, He⟩ | ⟨q, hq, rfl, HRq⟩
    · go_wp2_with fail
      go_ret
      exact ⟨ret_int He.out.symm, hbel'⟩
    · have hq0 : (0 : Int) ≤ (q : Int) := by omega
      have hqc : q ≤ pc := by omega
      have hw2 : IntKind.i64.wrap (q : Int) = (q : Int) := IntWalk.i64_in _ ⟨by omega, by omega⟩
      go_wp2_with fail
      have Hj : Hid (∀ W, Below w0.heap.size w0 W → Calls Tryz.prog 37 #[.slice pA q pc, .string s] W fun e w' => ∃ v, e = .returned v ∧ SlV rStr w' (fun _ => True) (path.take q ++ [s]) v ∧ Below W.heap.size W w') := fun W hW =>
        joined_any pA q pc (path.take q) s W _ HS.out (by rw [List.length_take]; omega) (SlV.take (HP.out.belowSize (bot HB0.out hW)) (by rw [Hl0.out]; exact hq))
      have Hf : Hid (∀ W vA m vc, Below w0.heap.size w0 W → SlV rStr W (fun _ => True) (path.take q ++ [s]) (.slice vA m vc) → Calls Tryz.prog 18 #[.agg #[.slice (some ⟨b, o, none⟩) n c], .slice vA m vc] W fun e w' => e = .returned (.int .i64 (findI xs (path.take q ++ [s]))) ∧ Below W.heap.size W w') := fun W vA m vc hW hv =>
        find_any _ _ _ _ _ _ xs _ W _ _ (HX.out.belowSize (bot HB0.out hW)) hv
      have Hst : Hid (lookDown xs path s (q + 1) = bif decide (0 ≤ findI xs (path.take q ++ [s])) then findI xs (path.take q ++ [s]) else lookDown xs path s q) := rfl
      generalize findI xs (path.take q ++ [s]) = f at *
      generalize path.take q ++ [s] = jp at *
      generalize lookDown xs path s (q + 1) = LD at *
      go_region_held3 (fun w' => w'.cell? ⟨w.heap.size, 0, none⟩ = some (.slice (some ⟨b, o, none⟩) n c) ∧ Below w0.heap.size w0 w')
        (first
          | exact ⟨b0, hbel.drew⟩
          | (go_split_ands; exact keepL (by assumption) (by assumption) (by assumption) hz))
        (first
          | (go_at_call 37; go_split_ands; with_reducible refine (Hj.out _ (by assumption)).mono ?_; rintro e w2 ⟨v, rfl, hv, hb2⟩; obtain ⟨vA, vc, rfl, _, _⟩ := hv.val)
          | (go_at_call 18; go_split_ands; with_reducible refine (Hf.out _ _ _ _ (by assumption) (by assumption)).mono ?_; rintro e w3 ⟨rfl, hb3⟩))
      all_goals
        have HBw : Hid (Below w0.heap.size w0 w3) := by (go_split_ands; assumption)
        have HRr : Hid (R = bif decide (0 ≤ f) then f else lookDown xs path s q) := HRq.out.trans Hst.out
        by_cases hf : 0 ≤ f
        · have He : Hid (R = f) := by unfold Hid; rw [HRr.out, decide_eq_true hf]; rfl
          go_wp2_with fail
          go_ret
          exact ⟨ret_int He.out.symm, bot HB0.out HBw.out⟩
        · have hfk : decide (0 ≤ f) = false := decide_eq_false hf
          have He : Hid (R = lookDown xs path s q) := by unfold Hid; rw [HRr.out, hfk]; rfl
          have hwm : IntKind.i64.wrap ((q : Int) - 1) = (q : Int) - 1 := IntWalk.i64_in _ ⟨by omega, by omega⟩
          clear hf HRr
          go_wp2_with fail
          go_roundw
          case rel =>
            refine ⟨?_, HBw.out⟩
            by_cases hq00 : q = 0
            · exact .inl ⟨by simp [hq00], by unfold Hid; rw [He.out, hq00]; rfl⟩
            · obtain ⟨q', rfl⟩ : ∃ q', q = q' + 1 := ⟨q - 1, by omega⟩
              exact .inr ⟨q', by omega, by congr 1; omega, He⟩
          case measure => simp [intOf]
end Go.Proofs.YtminjjdnmpaaoaaGreatDoor
/-
  The document's Look.
-/
set_option autoImplicit false
set_option relaxedAutoImplicit false
set_option linter.unusedVariables false
set_option linter.unusedSimpArgs false
namespace Go.Proofs.YtminjjdnmpaaoaaGreatDoor
open Go.Rows Go.RowKit Go.Shelf Go.Sort

set_option maxHeartbeats 3200000 in
set_option maxRecDepth 100000 in
theorem refLook_any (A : Option Addr) (n c : Nat) (xs : List Dir) (s : ByteArray) (w : World) (S : Nat → Prop) (i : Int) (hs : s.size ≤ maxLen) (hlen : ∀ d ∈ xs, d.path.length * 32 ≤ 140737488355328) (hx : SlV rDir w S xs (.slice A n c)) :
    Calls Tryz.prog 57 #[.agg #[.slice A n c], .int .i64 i, .string s] w fun e w' => e = .returned (.int .i64 (lookI xs i s)) ∧ Below w.heap.size w w' := by
  have hnx := hx.n_eq
  have hcx := hx.cap_le
  unfold maxLen at hcx
  have Hnm : Hid (∀ W, Calls Tryz.prog 97 #[.string s] W fun e w' => e = .returned (.bool (nameB s)) ∧ Below W.heap.size W w') := fun W => (refName_any s hs W).mono fun e w' h => ⟨h.1, h.2 ▸ Below.refl _ _⟩
  by_cases h0 : i < 0
  · have hd : decide (i < 0) = true := decide_eq_true h0
    have He : Hid (lookI xs i s = -1) := by unfold Hid lookI; rw [dif_neg (by omega)]
    clear hx hnx hcx hlen
    generalize lookI xs i s = R at *
    generalize nameB s = nb at *
    clear hs
    go_enter Tryz.func57, Tryz.ntmps57
    go_wp2_with fail
    refine (Hnm.out _).mono ?_
    rintro e w1 ⟨rfl, B1⟩
    have b0 := below_cell B1 (show (w.alloc (.cells #[.slice A n c] 33)).cell? ⟨w.heap.size, 0, none⟩ = some (.slice A n c) by simp [go_sem]) (by simp [go_sem])
    go_wp2_with fail
    go_ret
    exact ⟨ret_int He.out.symm, bnew B1⟩
  have hd : decide (i < 0) = false := decide_eq_false h0
  by_cases h1 : (n : Int) ≤ i
  · have hd1 : decide ((n : Int) ≤ i) = true := decide_eq_true h1
    have He : Hid (lookI xs i s = -1) := by unfold Hid lookI; rw [dif_neg (by omega)]
    clear hx hnx hcx hlen
    generalize lookI xs i s = R at *
    generalize nameB s = nb at *
    clear hs
    go_enter Tryz.func57, Tryz.ntmps57
    go_wp2_with fail
    refine (Hnm.out _).mono ?_
    rintro e w1 ⟨rfl, B1⟩
    have b0 := below_cell B1 (show (w.alloc (.cells #[.slice A n c] 33)).cell? ⟨w.heap.size, 0, none⟩ = some (.slice A n c) by simp [go_sem]) (by simp [go_sem])
    go_wp2_with fail
    go_ret
    exact ⟨ret_int He.out.symm, bnew B1⟩
  have hd1 : decide ((n : Int) ≤ i) = false := decide_eq_false h1
  obtain ⟨k, rfl⟩ : ∃ k : Nat, i = (k : Int) := ⟨i.toNat, by omega⟩
  have hk : k < xs.length := by omega
  have HR : Hid (lookI xs (k : Int) s = bif nameB s then lookDown xs xs[k].path s (xs[k].path.length + 1) else -1) := by
    unfold Hid lookI; rw [dif_pos (by omega)]; simp only [Int.toNat_natCast]
  generalize lookI xs (k : Int) s = R at *
  have hkn : (k : Int) < (n : Int) := by omega
  have hk0 : (0 : Int) ≤ (k : Int) := by omega
  have hd2 : decide (n ≤ k) = false := decide_eq_false (by omega)
  cases hnb : nameB s
  · have He : Hid (R = -1) := by unfold Hid; rw [HR.out, hnb]; rfl
    rw [hnb] at Hnm
    clear hx hnx hcx hlen hnb HR
    go_enter Tryz.func57, Tryz.ntmps57
    go_wp2_with fail
    refine (Hnm.out _).mono ?_
    rintro e w1 ⟨rfl, B1⟩
    have b0 := below_cell B1 (show (w.alloc (.cells #[.slice A n c] 33)).cell? ⟨w.heap.size, 0, none⟩ = some (.slice A n c) by simp [go_sem]) (by simp [go_sem])
    go_wp2_with fail
    go_ret
    exact ⟨ret_int He.out.symm, bnew B1⟩
  rw [hnb] at Hnm
  have HR1 : Hid (R = lookDown xs xs[k].path s (xs[k].path.length + 1)) := by unfold Hid; rw [HR.out, hnb]; rfl
  clear HR hnb
  have hlk := hlen xs[k] (List.getElem_mem hk)
  have HX := Lib.hid hx
  have HS := Lib.hid hs
  obtain ⟨b, o, cs, rfl, _, hb1, hh, hcell⟩ := hx.elem (List.getElem?_eq_getElem hk)
  obtain ⟨s0, s1, s2, s3, rfl, hp, _, _, _, _, _, _, _, _⟩ := hh
  obtain ⟨pA, pc, rfl, hpl, hpm⟩ := hp.val
  unfold maxLen at hpm
  have c0 := hcell 0 _ rfl
  simp only [rDir, Nat.add_zero] at c0
  have HP := Lib.hid hp
  clear hcell hp hx hs hlen hcx hnx
  generalize xs[k].path = path at *
  generalize hl0 : path.length = l0 at *
  have Hl0 := Lib.hid hl0; clear hl0
  go_enter Tryz.func57, Tryz.ntmps57
  go_wp2_with fail
  obtain ⟨w0, hw0⟩ : ∃ w0, w0 = w.alloc (.cells #[.slice (some ⟨b, o, none⟩) n c] 33) := ⟨_, rfl⟩
  have hz : w.heap.size < w0.heap.size := by rw [hw0]; simp [go_sem]
  have hb0 : Below w.heap.size w w0 := by rw [hw0]; exact bal (Below.refl _ _) _
  have a0 : w0.cell? ⟨w.heap.size, 0, none⟩ = some (.slice (some ⟨b, o, none⟩) n c) := by rw [hw0]; simp [go_sem]
  rw [← hw0]
  have HB0 := Lib.hid hb0; clear hb0 hw0
  refine (Hnm.out w0).mono ?_
  rintro e w1 ⟨rfl, B1⟩
  have Q1 := Lib.hid B1; clear B1 Hnm
  have e0 := below_cell (bot HB0.out Q1.out) c0 hb1
  have e1 := below_cell Q1.out a0 hz
  go_wp2_with fail
  clear e0 e1
  go_loopw [9] (fun i wr => ((i = .int .i64 (-1) ∧ Hid (R = -1)) ∨ ∃ q : Nat, q ≤ l0 ∧ i = .int .i64 q ∧ Hid (R = lookDown xs path s (q + 1))) ∧ Below w0.heap.size w0 wr) (fun i _ => (intOf i + 1).toNat)
  case atStart => exact ⟨.inr ⟨l0, Nat.le_refl _, rfl, HR1⟩, Q1.out⟩
  case round =>
    obtain ⟨hor, hbel⟩ := hrel
    have b0 := below_cell hbel a0 hz
    have hbel' := bot HB0.out hbel
    rcases hor with ⟨rfl, He⟩ | ⟨q, hq, rfl, HRq⟩
    · go_wp2_with fail
      go_ret
      exact ⟨ret_int He.out.symm, hbel'⟩
    · have hq0 : (0 : Int) ≤ (q : Int) := by omega
      have hqc : q ≤ pc := by omega
      have hw2 : IntKind.i64.wrap (q : Int) = (q : Int) := IntWalk.i64_in _ ⟨by omega, by omega⟩
      go_wp2_with fail
      have Hj : Hid (∀ W, Below w0.heap.size w0 W → Calls Tryz.prog 98 #[.slice pA q pc, .string s] W fun e w' => ∃ v, e = .returned v ∧ SlV rStr w' (fun _ => True) (path.take q ++ [s]) v ∧ Below W.heap.size W w') := fun W hW =>
        refJoined_any pA q pc (path.take q) s W _ HS.out (by rw [List.length_take]; omega) (SlV.take (HP.out.belowSize (bot HB0.out hW)) (by rw [Hl0.out]; exact hq))
      have Hf : Hid (∀ W vA m vc, Below w0.heap.size w0 W → SlV rStr W (fun _ => True) (path.take q ++ [s]) (.slice vA m vc) → Calls Tryz.prog 93 #[.agg #[.slice (some ⟨b, o, none⟩) n c], .slice vA m vc] W fun e w' => e = .returned (.int .i64 (findI xs (path.take q ++ [s]))) ∧ Below W.heap.size W w') := fun W vA m vc hW hv =>
        refFind_any _ _ _ _ _ _ xs _ W _ _ (HX.out.belowSize (bot HB0.out hW)) hv
      have Hst : Hid (lookDown xs path s (q + 1) = bif decide (0 ≤ findI xs (path.take q ++ [s])) then findI xs (path.take q ++ [s]) else lookDown xs path s q) := rfl
      generalize findI xs (path.take q ++ [s]) = f at *
      generalize path.take q ++ [s] = jp at *
      generalize lookDown xs path s (q + 1) = LD at *
      go_region_held3 (fun w' => w'.cell? ⟨w.heap.size, 0, none⟩ = some (.slice (some ⟨b, o, none⟩) n c) ∧ Below w0.heap.size w0 w')
        (first
          | exact ⟨b0, hbel.drew⟩
          | (go_split_ands; exact keepL (by assumption) (by assumption) (by assumption) hz))
        (first
          | (go_at_call 98; go_split_ands; with_reducible refine (Hj.out _ (by assumption)).mono ?_; rintro e w2 ⟨v, rfl, hv, hb2⟩; obtain ⟨vA, vc, rfl, _, _⟩ := hv.val)
          | (go_at_call 93; go_split_ands; with_reducible refine (Hf.out _ _ _ _ (by assumption) (by assumption)).mono ?_; rintro e w3 ⟨rfl, hb3⟩))
      all_goals
        have HBw : Hid (Below w0.heap.size w0 w3) := by (go_split_ands; assumption)
        have HRr : Hid (R = bif decide (0 ≤ f) then f else lookDown xs path s q) := HRq.out.trans Hst.out
        by_cases hf : 0 ≤ f
        · have He : Hid (R = f) := by unfold Hid; rw [HRr.out, decide_eq_true hf]; rfl
          go_wp2_with fail
          go_ret
          exact ⟨ret_int He.out.symm, bot HB0.out HBw.out⟩
        · have hfk : decide (0 ≤ f) = false := decide_eq_false hf
          have He : Hid (R = lookDown xs path s q) := by unfold Hid; rw [HRr.out, hfk]; rfl
          have hwm : IntKind.i64.wrap ((q : Int) - 1) = (q : Int) - 1 := IntWalk.i64_in _ ⟨by omega, by omega⟩
          clear hf HRr
          go_wp2_with fail
          go_roundw
          case rel =>
            refine ⟨?_, HBw.out⟩
            by_cases hq00 : q = 0
            · exact .inl ⟨by simp [hq00], by unfold Hid; rw [He.out, hq00]; rfl⟩
            · obtain ⟨q', rfl⟩ : ∃ q', q = q' + 1 := ⟨q - 1, by omega⟩
              exact .inr ⟨q', by omega, by congr 1; omega, He⟩
          case measure => simp [intOf]
end Go.Proofs.YtminjjdnmpaaoaaGreatDoor
set_option autoImplicit false
set_option relaxedAutoImplicit false
set_option linter.unusedVariables false
set_option linter.unusedSimpArgs false
namespace Go.Proofs.YtminjjdnmpaaoaaGreatDoor
open Go.RowKit

theorem cell_set_same {w : World} {a : Addr} {v u : Value} (h : w.cell? a = some u) : (w.setCell a v).cell? a = some v := by
  apply World.cell?_setCell_same (h := h)
theorem cell_set_off {w : World} {g o o' : Nat} {v : Value} (h : o ≠ o') : (w.setCell ⟨g, o, none⟩ v).cell? ⟨g, o', none⟩ = w.cell? ⟨g, o', none⟩ := by
  apply World.cell?_setCell_other
  intro e
  simp only [Addr.mk.injEq] at e
  exact h e.2.1
/-- the value is '.slice (some ⟨g, k, none⟩) l.length cap' -/
structure IRow (w : World) (base g k cap : Nat) (l : List Int) : Prop where
  lo : base ≤ g
  le : l.length ≤ cap
  max : cap ≤ maxLen
  lt : g < w.heap.size
  at_ : ∀ (j : Nat) (x : Int), l[j]? = some x → w.cell? ⟨g, k + j, none⟩ = some (.int .i64 x)
  there : ∀ j, j < cap → (w.cell? ⟨g, k + j, none⟩).isSome = true ∧ w.frozen? ⟨g, k + j, none⟩ = false

section
variable {w w' : World} {base g k cap : Nat} {l : List Int}
theorem IRow.keepBlock (h : IRow w base g k cap l) (hs : w.heap.size ≤ w'.heap.size) (hb : w'.heap[g]? = w.heap[g]?) : IRow w' base g k cap l :=
  ⟨h.lo, h.le, h.max, Nat.lt_of_lt_of_le h.lt hs, fun j x hj => (cell_same hb _ _).trans (h.at_ j x hj), fun j hj => ⟨by rw [cell_same hb]; exact (h.there j hj).1, (frozen_same hb _ _).trans (h.there j hj).2⟩⟩
theorem IRow.keep (h : IRow w base g k cap l) (hb : Below w.heap.size w w') : IRow w' base g k cap l := h.keepBlock hb.size (hb.block g h.lt)
theorem IRow.alloc (h : IRow w base g k cap l) (o : Obj) : IRow (w.alloc o) base g k cap l := h.keep ((Below.refl _ _).alloc (Nat.le_refl _) o)
theorem IRow.drew (h : IRow w base g k cap l) : IRow w.drew base g k cap l := h.keepBlock (Nat.le_refl _) rfl
theorem IRow.grown (h : IRow w base g k cap l) {row : Option Nat} (hg : w.grownBy w' row) (hne : some g ≠ row) : IRow w' base g k cap l := h.keepBlock hg.size (hg.block g h.lt hne)
theorem IRow.get (h : IRow w base g k cap l) {j : Nat} (hj : j < l.length) : w.cell? ⟨g, k + j, none⟩ = some (.int .i64 l[j]) := h.at_ j _ (List.getElem?_eq_getElem hj)
theorem IRow.frozen (h : IRow w base g k cap l) {j : Nat} (hj : j < cap) : w.frozen? ⟨g, k + j, none⟩ = false := (h.there j hj).2
theorem IRow.tail {x : Int} (h : IRow w base g k cap (x :: l)) : IRow w base g (k + 1) (cap - 1) l := by
  have h1 := h.le
  have h2 := h.max
  rw [List.length_cons] at h1
  exact ⟨h.lo, by omega, by omega, h.lt, fun j y hj => by rw [show k + 1 + j = k + (j + 1) by omega]; exact h.at_ (j + 1) y (by simpa using hj),
    fun j hj => by rw [show k + 1 + j = k + (j + 1) by omega]; exact h.there (j + 1) (by omega)⟩
theorem IRow.set (h : IRow w base g k cap l) {j : Nat} (hj : j < l.length) (x : Int) :
    IRow (w.setCell ⟨g, k + j, none⟩ (.int .i64 x)) base g k cap (l.set j x) ∧ w.grownBy (w.setCell ⟨g, k + j, none⟩ (.int .i64 x)) (some g) := by
  have hle := h.le
  refine ⟨⟨h.lo, by simpa using h.le, h.max, by simpa using h.lt, fun i y hi => ?_, fun i hi => ?_⟩, ⟨rfl, rfl, rfl, by simp, fun b _ hk => heap_setCell_other w ⟨g, k + j, none⟩ b _ (fun e => hk (by simp [e]))⟩⟩
  · by_cases hij : i = j
    · subst hij
      rw [List.getElem?_set_self hj] at hi
      injection hi with hi
      subst hi
      exact cell_set_same (h.get hj)
    · rw [List.getElem?_set_ne (Ne.symm hij)] at hi
      rw [cell_set_off (by omega)]
      exact h.at_ i y hi
  · have hf := (h.there i hi)
    refine ⟨?_, (World.frozen?_setCell _ _ _ _).trans hf.2⟩
    by_cases hij : i = j
    · subst hij
      rw [cell_set_same (h.get hj)]; rfl
    · rw [cell_set_off (by omega)]
      exact hf.1
theorem IRow.of_owns {e : TypeId} (h : w.ownsRow base e 1 (.slice (some ⟨g, 0, none⟩) l.length cap) l.length (l.map (Value.int .i64))) : IRow w base g 0 cap l := by
  have hlt := h.lt g rfl
  have hfz := fun j => World.ownsRow.frozenAt h j
  rcases h.2 with ⟨h', _⟩ | ⟨g', cap', cur, h', hb, hg, hnc, hcm, hcs, htake⟩
  · simp at h'
  · simp only [Value.slice.injEq, Option.some.injEq, Addr.mk.injEq, and_true, true_and] at h'
    obtain ⟨rfl, rfl⟩ := h'
    refine ⟨hlt.1, hnc, hcm, hlt.2, fun j x hj => ?_, fun j hj => ⟨?_, by rw [Nat.zero_add]; exact hfz j⟩⟩
    · have hjl : j < l.length := (List.getElem?_eq_some_iff.1 hj).1
      rw [Nat.zero_add, World.ownsRow.cellAt h j (by omega), List.getElem?_map, hj]
      rfl
    · rw [Nat.zero_add, cell_of_row w g j cur e (0, 0) hg, Array.getElem?_eq_getElem (by omega)]
      rfl
theorem IRow.slv (h : IRow w base g k cap l) (hi : ∀ x ∈ l, I64 x) : SlV rInt w (fun b => base ≤ b) l (.slice (some ⟨g, k, none⟩) l.length cap) :=
  ⟨some ⟨g, k, none⟩, cap, rfl, h.le, h.max, (fun e => by cases e), fun _ => ⟨g, k, rfl, h.lo, h.lt, fun i x hx => ⟨[.int .i64 x], ⟨rfl, hi x (List.mem_of_getElem? hx)⟩, fun j u hu => by
    cases j with
    | zero => simp at hu; subst hu; simpa [rInt] using h.at_ i x hx
    | succ j => simp at hu⟩⟩⟩
/-- a row of one's own that was laid as a literal of one element -/
theorem IRow.lit (w : World) (base : Nat) (e : TypeId) (x : Int) (hb : base ≤ w.heap.size) : IRow (w.alloc (.cells #[.int .i64 x] e)) base w.heap.size 0 1 [x] :=
  IRow.of_owns (e := e) (World.ownsRow_lit w #[.int .i64 x] 1 hb (by simp [maxLen]) rfl)

theorem IRow.push {P : Program} {t ty e : TypeId} {bytes : Nat} (E : Elt P e 1 bytes) (ht : P.underlying t = some (.slice e)) (h : IRow w base g k cap l)
    (ad : Addr) (c : Nat) (y : Int) (hy : w.cell? ad = some (.int .i64 y)) (h63 : l.length + 1 ≤ maxLen) (hbytes : (l.length + 1) * bytes ≤ 140737488355328) (hbase : base ≤ w.heap.size) :
    ∃ g' k' cap' w', (Builtin.append_ #[t, t] ty #[.slice (some ⟨g, k, none⟩) l.length cap, .slice (some ad) 1 c]).run P w = .ok (.slice (some ⟨g', k', none⟩) (l.length + 1) cap') w' ∧
      IRow w' base g' k' cap' (l ++ [y]) ∧ w.grownBy w' (some g) ∧ (g' = g ∨ g' = w.heap.size) := by
  obtain ⟨i, z, hi, hz, hsz, hby, hzs, hpos⟩ := E
  have hadd0 : ad.add 0 = ad := by unfold Addr.add; split <;> simp_all
  have hs : Src P i.size t (.slice (some ad) 1 c) 1 [Value.int .i64 y] w := Src.ofSlice (P := P) w ht ad 1 c [Value.int .i64 y] (by rw [hsz]; rfl) (fun j u hu => by
    cases j with
    | zero => simp at hu; subst hu; rw [hadd0]; exact hy
    | succ j => simp at hu) (by simp [Value.oneCell'])
  have hle := h.le
  have hmx := h.max
  by_cases hroom : l.length + 1 ≤ cap
  · have hth := h.there l.length (by omega)
    have hrun := run_append_room_src (P := P) w t t ty e i ht hi g k l.length cap _ 1 _ hs hroom
      (fun j hj => by have : j = 0 := by simpa using hj
                      subst this; rw [hsz, Nat.mul_one, Nat.add_zero]; exact hth.1)
      (fun j hj => by have : j = 0 := by simpa using hj
                      subst this; rw [hsz, Nat.mul_one, Nat.add_zero]; exact hth.2)
    rw [hsz, Nat.mul_one] at hrun
    obtain ⟨u0, hu0⟩ := Option.isSome_iff_exists.1 hth.1
    refine ⟨g, k, cap, _, hrun, ⟨h.lo, by simpa using hroom, hmx, by simpa [World.setCells] using h.lt, fun j x hj => ?_, fun j hj => ?_⟩, ⟨rfl, rfl, rfl, by simp [World.setCells], fun b _ hk => heap_setCell_other w ⟨g, k + l.length, none⟩ b _ (fun e => hk (by simp [e]))⟩, .inl rfl⟩
    · simp only [World.setCells]
      by_cases hjl : j < l.length
      · rw [List.getElem?_append_left hjl] at hj
        rw [cell_set_off (by omega)]
        exact h.at_ j x hj
      · have hjj := (List.getElem?_eq_some_iff.1 hj).1
        simp at hjj
        have : j = l.length := by omega
        subst this
        simp at hj
        subst hj
        exact cell_set_same hu0
    · simp only [World.setCells]
      refine ⟨?_, (World.frozen?_setCell _ _ _ _).trans (h.there j hj).2⟩
      by_cases hjl : j = l.length
      · subst hjl; rw [cell_set_same hu0]; rfl
      · rw [cell_set_off (by omega)]; exact (h.there j hj).1
  · have holds : ∀ j u, (l.map (Value.int .i64))[j]? = some u → w.drew.cell? ((⟨g, k, none⟩ : Addr).add j) = some u := fun j u hu => by
      rw [List.getElem?_map] at hu
      rcases hx : l[j]? with _ | x
      · rw [hx] at hu; cases hu
      · rw [hx] at hu
        injection hu with hu
        subst hu
        rw [Addr.add_lit]
        exact h.at_ j x hx
    have hfc := run_firstCells_some (P := P) w.drew i.size l.length ⟨g, k, none⟩ l.length cap (l.map (Value.int .i64)) (by rw [hsz]; simp) holds
    have hby' := hby
    have hrun := run_append_grow_src (P := P) w t t ty e i z ht hi hz (some ⟨g, k, none⟩) l.length cap (l.map (Value.int .i64)) hfc _ 1 _ hs (by omega) (by unfold maxLen at h63; omega) (growslice_fits (by omega) (by rw [hby]; exact hbytes))
    have hge := grownCap_ge w (l.length + 1) cap e
    have hcm := grownCap_le_maxLen w (l.length + 1) cap e h63
    obtain ⟨C, hC⟩ : ∃ C, C = (l.map (Value.int .i64) ++ [Value.int .i64 y]).toArray ++ Builtin.zeroCells z.cells (grownCap w (l.length + 1) cap e - (l.length + 1)) := ⟨_, rfl⟩
    have e1 : ∀ j, (w.drew.alloc (.cells C e)).cell? ⟨w.heap.size, 0 + j, none⟩ = C[j]? := fun j => by rw [Nat.zero_add]; exact World.cell?_alloc_new w.drew _ _ j
    rw [← hC] at hrun
    refine ⟨w.heap.size, 0, _, _, hrun, ⟨hbase, by simpa using hge, hcm, by simp, fun j x hj => ?_, fun j hj => ⟨?_, by rw [Nat.zero_add]; exact World.frozen?_alloc_new w.drew _ _ j⟩⟩, ⟨rfl, rfl, rfl, by simp, fun b hb _ => Below.heap_alloc w.drew _ b hb⟩, .inr rfl⟩
    · have hjj := (List.getElem?_eq_some_iff.1 hj).1
      simp only [List.length_append, List.length_singleton] at hjj
      rw [e1, hC, Array.getElem?_append_left (by simp; omega), List.getElem?_toArray]
      have : (l.map (Value.int .i64) ++ [Value.int .i64 y]) = (l ++ [y]).map (Value.int .i64) := by simp
      rw [this, List.getElem?_map, hj]
      rfl
    · rw [e1, Array.getElem?_eq_getElem (by
        rw [hC, Array.size_append, List.size_toArray, size_zeroCells, hzs]
        simp only [List.length_append, List.length_map, List.length_singleton, Nat.mul_one]
        omega)]
      rfl
end

section
variable {P : Program} {ops : Array Oper} {o : Oper} {a : Act} {K : Act → World → Prop} {Q : Exit → Act → World → Prop} {bytes : Nat} {w : World} {base g k cap : Nat} {l : List Int}
end
end Go.Proofs.YtminjjdnmpaaoaaGreatDoor
