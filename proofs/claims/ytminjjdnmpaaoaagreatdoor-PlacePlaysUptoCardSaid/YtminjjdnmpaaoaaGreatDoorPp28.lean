/-
  The program's placer: do names rise: walked.
  The program's placer: the first edge of a label: walked.
-/
import Derived.Test.YtminjjdnmpaaoaaGreatDoorPp27
import Derived.Test.YtminjjdnmpaaoaaGreatDoorPp08
set_option autoImplicit false
set_option relaxedAutoImplicit false
set_option linter.unusedVariables false
set_option linter.unusedSimpArgs false
namespace Go.Proofs.YtminjjdnmpaaoaaGreatDoor
open Go.Rows Go.RowKit Go.Shelf Go.Sort

theorem ret_bP {a b : Bool} (h : a = b) : Ending.returned (.bool a) = .returned (.bool b) := by rw [h]

set_option maxHeartbeats 800000 in
theorem formed1_any (x : Pin) (w : World) :
    Calls Tryz.prog 73 #[.agg #[.string x.name, .int .i64 x.ver.major, .int .i64 x.ver.minor, .int .i64 x.ver.patch]] w fun e w' => e = .returned (.string x.name) ∧ Below w.heap.size w w' := by
  have HB := fun o => Lib.hid (bal (Below.refl w.heap.size w) o)
  go_enter Tryz.func73, Tryz.ntmps73
  go_wp2_with fail
  go_ret
  exact ⟨rfl, (HB _).out⟩
theorem enters_formed1 : Enters Tryz.prog 73 := enters_of Tryz.func73 (by kernel_rfl) rfl
set_option maxHeartbeats 800000 in
theorem formed2_any (x : Edge) (w : World) :
    Calls Tryz.prog 75 #[.agg #[.string x.label, .int .i64 x.to]] w fun e w' => e = .returned (.string x.label) ∧ Below w.heap.size w w' := by
  have HB := fun o => Lib.hid (bal (Below.refl w.heap.size w) o)
  go_enter Tryz.func75, Tryz.ntmps75
  go_wp2_with fail
  go_ret
  exact ⟨rfl, (HB _).out⟩
theorem enters_formed2 : Enters Tryz.prog 75 := enters_of Tryz.func75 (by kernel_rfl) rfl

set_option maxHeartbeats 3200000 in
set_option maxRecDepth 100000 in
theorem risePin_any (A : Option Addr) (n c : Nat) (xs : List Pin) (w : World) (S : Nat → Prop) (hx : SlV rPin w S xs (.slice A n c)) :
    Calls Tryz.prog 72 #[.slice A n c, .func (.func 73) #[] #[]] w fun e w' => e = .returned (.bool (risesGo none (pinNames xs))) ∧ Below w.heap.size w w' := by
  have hnx := hx.n_eq
  have hcx := hx.cap_le
  unfold maxLen at hcx
  have hn63 : n ≤ 9223372036854775807 := by omega
  have hx' := Lib.hid hx
  have HR : Hid (risesGo none (pinNames xs) = risesGo (prevAt (pinNames xs) 0) ((pinNames xs).drop 0)) := rfl
  have Hln : Hid ((pinNames xs).length = n) := by unfold Hid pinNames; rw [List.length_map, hnx]
  have Hnx := Lib.hid hnx
  have hent := fun args W => enters_formed1 args W
  have hentN := fun (args : Array Value) (W : World) => hent args W
  clear hcx hx hnx
  generalize hR : risesGo none (pinNames xs) = R at *
  clear hR
  go_enter Tryz.func72, Tryz.ntmps72
  go_wp2_with fail
  go_loopw [8] (fun i wr => ∃ k : Nat, k ≤ n ∧ i = .int .i64 k ∧ Hid (R = risesGo (prevAt (pinNames xs) k) ((pinNames xs).drop k)) ∧ Below w.heap.size w wr) (fun i _ => n - (intOf i).toNat)
  case atStart => exact ⟨0, Nat.zero_le _, rfl, HR, Below.refl _ _⟩
  case round =>
    obtain ⟨k, hk, rfl, Hm, hbel⟩ := hrel
    have HB := Lib.hid hbel
    clear hbel
    have hk0 : (0 : Int) ≤ (k : Int) := by omega
    by_cases hlt : k < n
    case neg =>
      have hI : ¬ (k : Int) < (n : Int) := by omega
      have Hr : Hid (R = true) := by unfold Hid; rw [Hm.out, risesGo_done (by rw [Hln.out]; omega)]
      clear Hm
      go_wp2_with fail
      go_ret
      exact ⟨ret_bP Hr.out.symm, HB.out⟩
    have hkI : (k : Int) < (n : Int) := by omega
    obtain ⟨x, hx⟩ : ∃ x, xs[k]? = some x := ⟨_, List.getElem?_eq_getElem (by have := Hnx.out; omega)⟩
    obtain ⟨b, o, cs, rfl, _, hb1, hh, hcell⟩ := (hx'.out.belowSize HB.out).elem hx
    obtain ⟨rfl, hnm, _⟩ := hh
    have c0 := hcell 0 _ rfl
    have c1 := hcell 1 _ rfl
    have c2 := hcell 2 _ rfl
    have c3 := hcell 3 _ rfl
    simp only [rPin, Nat.add_zero] at c0 c1 c2 c3
    have hs : (pinNames xs)[k]? = some x.name := by unfold pinNames; rw [List.getElem?_map, hx]; rfl
    have Hst := Lib.hid (Hm.out.trans (risesGo_step hs))
    have Hc := Lib.hid (qcall (w := wr) (fun W hW => formed1_any x W))
    have Hnm := Lib.hid (qcall (w := wr) (fun W hW => scanName_any x.name hnm W))
    clear Hm hcell hnm hs
    cases hnb : nameB x.name with
    | false =>
      have Hr : Hid (R = false) := by unfold Hid; rw [Hst.out, hnb]; rfl
      rw [hnb] at Hnm
      clear Hst hnb
      have r_c0 := cell_regrown c0
      have r_c1 := cell_regrown c1
      have r_c2 := cell_regrown c2
      have r_c3 := cell_regrown c3
      go_wp2_with fail
      refine wp_region_qb (by kernel_rfl) (by kernel_rfl) ?_
      repeat (go_big_quiet_step (first | (with_reducible exact Hc.out _ _) | (with_reducible exact Hnm.out _ _)))
      refine wpQuiet_nil ?_
      intro w4 B4
      have HB4 := Lib.hid (bot HB.out B4)
      go_wp2_with fail
      go_ret
      exact ⟨ret_bP Hr.out.symm, HB4.out⟩
    | true =>
    rw [hnb] at Hnm
    by_cases hk00 : k = 0
    case pos =>
      have Hnx2 : Hid (R = risesGo (prevAt (pinNames xs) (k + 1)) ((pinNames xs).drop (k + 1))) := by unfold Hid; rw [Hst.out, hnb, show prevAt (pinNames xs) k = none by rw [hk00]; rfl]; rfl
      have hng : ¬ (0 : Int) < (k : Int) := by omega
      have hngd : decide (0 < k) = false := decide_eq_false (by omega)
      clear Hst hnb hk00
      have r_c0 := cell_regrown c0
      have r_c1 := cell_regrown c1
      have r_c2 := cell_regrown c2
      have r_c3 := cell_regrown c3
      go_wp2_with fail
      refine wp_region_qb (by kernel_rfl) (by kernel_rfl) ?_
      repeat (go_big_quiet_step (first | (with_reducible exact Hc.out _ _) | (with_reducible exact Hnm.out _ _)))
      refine wpQuiet_nil ?_
      intro w4 B4
      have HB4 := Lib.hid (bot HB.out B4)
      go_wp2_with fail
      go_roundw
      case rel => exact ⟨k + 1, by omega, by go_num, Hnx2, HB4.out⟩
      case measure => simp [intOf]; omega
    case neg =>
      obtain ⟨j, rfl⟩ : ∃ j, k = j + 1 := ⟨k - 1, by omega⟩
      clear hk00
      obtain ⟨y, hy⟩ : ∃ y, xs[j]? = some y := ⟨_, List.getElem?_eq_getElem (by have := Hnx.out; omega)⟩
      obtain ⟨b2, o2, cs2, hA2, _, _, hh2, hcell2⟩ := (hx'.out.belowSize HB.out).elem hy
      obtain ⟨rfl, _⟩ := hh2
      injection hA2 with hA2
      injection hA2 with hb2 ho2 _
      subst hb2 ho2
      have d0 := hcell2 0 _ rfl
      have d1 := hcell2 1 _ rfl
      have d2 := hcell2 2 _ rfl
      have d3 := hcell2 3 _ rfl
      simp only [rPin, Nat.add_zero] at d0 d1 d2 d3
      have hpv : prevAt (pinNames xs) (j + 1) = some y.name := by show (pinNames xs)[j]? = _; unfold pinNames; rw [List.getElem?_map, hy]; rfl
      have Hc1 := Lib.hid (qcall (w := wr) (fun W hW => formed1_any y W))
      have hwj : IntKind.i64.wrap (((j + 1 : Nat) : Int) - 1) = (j : Int) := by rw [IntWalk.i64_in _ ⟨by omega, by omega⟩]; omega
      have hgt : (0 : Int) < ((j + 1 : Nat) : Int) := by omega
      have hj0 : (0 : Int) ≤ (j : Int) := by omega
      have hjn : (j : Int) < (n : Int) := by omega
      have Hls : Hid (behind (some y.name) x.name = Op.bytesLess y.name.toList x.name.toList) := rfl
      rw [hpv, hnb, Hls.out, Bool.true_and] at Hst
      clear hpv hcell2 hy hnb Hls
      cases hls : Op.bytesLess y.name.toList x.name.toList with
      | true =>
        have Hnx2 : Hid (R = risesGo (prevAt (pinNames xs) (j + 1 + 1)) ((pinNames xs).drop (j + 1 + 1))) := by unfold Hid; rw [Hst.out, hls, Bool.true_and]
        clear Hst
        have r_c0 := cell_regrown c0
        have r_c1 := cell_regrown c1
        have r_c2 := cell_regrown c2
        have r_c3 := cell_regrown c3
        have r_d0 := cell_regrown d0
        have r_d1 := cell_regrown d1
        have r_d2 := cell_regrown d2
        have r_d3 := cell_regrown d3
        go_wp2_with fail
        refine wp_region_qb (by kernel_rfl) (by kernel_rfl) ?_
        repeat (go_big_quiet_step (first | (with_reducible exact Hc.out _ _) | (with_reducible exact Hc1.out _ _) | (with_reducible exact Hnm.out _ _)))
        refine wpQuiet_nil ?_
        intro w4 B4
        have HB4 := Lib.hid (bot HB.out B4)
        go_wp2_with fail
        go_roundw
        case rel => exact ⟨j + 1 + 1, by omega, by go_num, Hnx2, HB4.out⟩
        case measure => simp [intOf]; omega
      | false =>
        have Hr : Hid (R = false) := by unfold Hid; rw [Hst.out, hls]; rfl
        clear Hst
        have r_c0 := cell_regrown c0
        have r_c1 := cell_regrown c1
        have r_c2 := cell_regrown c2
        have r_c3 := cell_regrown c3
        have r_d0 := cell_regrown d0
        have r_d1 := cell_regrown d1
        have r_d2 := cell_regrown d2
        have r_d3 := cell_regrown d3
        go_wp2_with fail
        refine wp_region_qb (by kernel_rfl) (by kernel_rfl) ?_
        repeat (go_big_quiet_step (first | (with_reducible exact Hc.out _ _) | (with_reducible exact Hc1.out _ _) | (with_reducible exact Hnm.out _ _)))
        refine wpQuiet_nil ?_
        intro w4 B4
        have HB4 := Lib.hid (bot HB.out B4)
        go_wp2_with fail
        go_ret
        exact ⟨ret_bP Hr.out.symm, HB4.out⟩
set_option maxHeartbeats 3200000 in
set_option maxRecDepth 100000 in
theorem riseEdge_any (A : Option Addr) (n c : Nat) (xs : List Edge) (w : World) (S : Nat → Prop) (hx : SlV rEdge w S xs (.slice A n c)) :
    Calls Tryz.prog 74 #[.slice A n c, .func (.func 75) #[] #[]] w fun e w' => e = .returned (.bool (risesGo none (edgeNames xs))) ∧ Below w.heap.size w w' := by
  have hnx := hx.n_eq
  have hcx := hx.cap_le
  unfold maxLen at hcx
  have hn63 : n ≤ 9223372036854775807 := by omega
  have hx' := Lib.hid hx
  have HR : Hid (risesGo none (edgeNames xs) = risesGo (prevAt (edgeNames xs) 0) ((edgeNames xs).drop 0)) := rfl
  have Hln : Hid ((edgeNames xs).length = n) := by unfold Hid edgeNames; rw [List.length_map, hnx]
  have Hnx := Lib.hid hnx
  have hent := fun args W => enters_formed2 args W
  have hentN := fun (args : Array Value) (W : World) => hent args W
  clear hcx hx hnx
  generalize hR : risesGo none (edgeNames xs) = R at *
  clear hR
  go_enter Tryz.func74, Tryz.ntmps74
  go_wp2_with fail
  go_loopw [8] (fun i wr => ∃ k : Nat, k ≤ n ∧ i = .int .i64 k ∧ Hid (R = risesGo (prevAt (edgeNames xs) k) ((edgeNames xs).drop k)) ∧ Below w.heap.size w wr) (fun i _ => n - (intOf i).toNat)
  case atStart => exact ⟨0, Nat.zero_le _, rfl, HR, Below.refl _ _⟩
  case round =>
    obtain ⟨k, hk, rfl, Hm, hbel⟩ := hrel
    have HB := Lib.hid hbel
    clear hbel
    have hk0 : (0 : Int) ≤ (k : Int) := by omega
    by_cases hlt : k < n
    case neg =>
      have hI : ¬ (k : Int) < (n : Int) := by omega
      have Hr : Hid (R = true) := by unfold Hid; rw [Hm.out, risesGo_done (by rw [Hln.out]; omega)]
      clear Hm
      go_wp2_with fail
      go_ret
      exact ⟨ret_bP Hr.out.symm, HB.out⟩
    have hkI : (k : Int) < (n : Int) := by omega
    obtain ⟨x, hx⟩ : ∃ x, xs[k]? = some x := ⟨_, List.getElem?_eq_getElem (by have := Hnx.out; omega)⟩
    obtain ⟨b, o, cs, rfl, _, hb1, hh, hcell⟩ := (hx'.out.belowSize HB.out).elem hx
    obtain ⟨rfl, hnm, _⟩ := hh
    have c0 := hcell 0 _ rfl
    have c1 := hcell 1 _ rfl
    simp only [rEdge, Nat.add_zero] at c0 c1
    have hs : (edgeNames xs)[k]? = some x.label := by unfold edgeNames; rw [List.getElem?_map, hx]; rfl
    have Hst := Lib.hid (Hm.out.trans (risesGo_step hs))
    have Hc := Lib.hid (qcall (w := wr) (fun W hW => formed2_any x W))
    have Hnm := Lib.hid (qcall (w := wr) (fun W hW => scanName_any x.label hnm W))
    clear Hm hcell hnm hs
    cases hnb : nameB x.label with
    | false =>
      have Hr : Hid (R = false) := by unfold Hid; rw [Hst.out, hnb]; rfl
      rw [hnb] at Hnm
      clear Hst hnb
      have r_c0 := cell_regrown c0
      have r_c1 := cell_regrown c1
      go_wp2_with fail
      refine wp_region_qb (by kernel_rfl) (by kernel_rfl) ?_
      repeat (go_big_quiet_step (first | (with_reducible exact Hc.out _ _) | (with_reducible exact Hnm.out _ _)))
      refine wpQuiet_nil ?_
      intro w4 B4
      have HB4 := Lib.hid (bot HB.out B4)
      go_wp2_with fail
      go_ret
      exact ⟨ret_bP Hr.out.symm, HB4.out⟩
    | true =>
    rw [hnb] at Hnm
    by_cases hk00 : k = 0
    case pos =>
      have Hnx2 : Hid (R = risesGo (prevAt (edgeNames xs) (k + 1)) ((edgeNames xs).drop (k + 1))) := by unfold Hid; rw [Hst.out, hnb, show prevAt (edgeNames xs) k = none by rw [hk00]; rfl]; rfl
      have hng : ¬ (0 : Int) < (k : Int) := by omega
      have hngd : decide (0 < k) = false := decide_eq_false (by omega)
      clear Hst hnb hk00
      have r_c0 := cell_regrown c0
      have r_c1 := cell_regrown c1
      go_wp2_with fail
      refine wp_region_qb (by kernel_rfl) (by kernel_rfl) ?_
      repeat (go_big_quiet_step (first | (with_reducible exact Hc.out _ _) | (with_reducible exact Hnm.out _ _)))
      refine wpQuiet_nil ?_
      intro w4 B4
      have HB4 := Lib.hid (bot HB.out B4)
      go_wp2_with fail
      go_roundw
      case rel => exact ⟨k + 1, by omega, by go_num, Hnx2, HB4.out⟩
      case measure => simp [intOf]; omega
    case neg =>
      obtain ⟨j, rfl⟩ : ∃ j, k = j + 1 := ⟨k - 1, by omega⟩
      clear hk00
      obtain ⟨y, hy⟩ : ∃ y, xs[j]? = some y := ⟨_, List.getElem?_eq_getElem (by have := Hnx.out; omega)⟩
      obtain ⟨b2, o2, cs2, hA2, _, _, hh2, hcell2⟩ := (hx'.out.belowSize HB.out).elem hy
      obtain ⟨rfl, _⟩ := hh2
      injection hA2 with hA2
      injection hA2 with hb2 ho2 _
      subst hb2 ho2
      have d0 := hcell2 0 _ rfl
      have d1 := hcell2 1 _ rfl
      simp only [rEdge, Nat.add_zero] at d0 d1
      have hpv : prevAt (edgeNames xs) (j + 1) = some y.label := by show (edgeNames xs)[j]? = _; unfold edgeNames; rw [List.getElem?_map, hy]; rfl
      have Hc1 := Lib.hid (qcall (w := wr) (fun W hW => formed2_any y W))
      have hwj : IntKind.i64.wrap (((j + 1 : Nat) : Int) - 1) = (j : Int) := by rw [IntWalk.i64_in _ ⟨by omega, by omega⟩]; omega
      have hgt : (0 : Int) < ((j + 1 : Nat) : Int) := by omega
      have hj0 : (0 : Int) ≤ (j : Int) := by omega
      have hjn : (j : Int) < (n : Int) := by omega
      have Hls : Hid (behind (some y.label) x.label = Op.bytesLess y.label.toList x.label.toList) := rfl
      rw [hpv, hnb, Hls.out, Bool.true_and] at Hst
      clear hpv hcell2 hy hnb Hls
      cases hls : Op.bytesLess y.label.toList x.label.toList with
      | true =>
        have Hnx2 : Hid (R = risesGo (prevAt (edgeNames xs) (j + 1 + 1)) ((edgeNames xs).drop (j + 1 + 1))) := by unfold Hid; rw [Hst.out, hls, Bool.true_and]
        clear Hst
        have r_c0 := cell_regrown c0
        have r_c1 := cell_regrown c1
        have r_d0 := cell_regrown d0
        have r_d1 := cell_regrown d1
        go_wp2_with fail
        refine wp_region_qb (by kernel_rfl) (by kernel_rfl) ?_
        repeat (go_big_quiet_step (first | (with_reducible exact Hc.out _ _) | (with_reducible exact Hc1.out _ _) | (with_reducible exact Hnm.out _ _)))
        refine wpQuiet_nil ?_
        intro w4 B4
        have HB4 := Lib.hid (bot HB.out B4)
        go_wp2_with fail
        go_roundw
        case rel => exact ⟨j + 1 + 1, by omega, by go_num, Hnx2, HB4.out⟩
        case measure => simp [intOf]; omega
      | false =>
        have Hr : Hid (R = false) := by unfold Hid; rw [Hst.out, hls]; rfl
        clear Hst
        have r_c0 := cell_regrown c0
        have r_c1 := cell_regrown c1
        have r_d0 := cell_regrown d0
        have r_d1 := cell_regrown d1
        go_wp2_with fail
        refine wp_region_qb (by kernel_rfl) (by kernel_rfl) ?_
        repeat (go_big_quiet_step (first | (with_reducible exact Hc.out _ _) | (with_reducible exact Hc1.out _ _) | (with_reducible exact Hnm.out _ _)))
        refine wpQuiet_nil ?_
        intro w4 B4
        have HB4 := Lib.hid (bot HB.out B4)
        go_wp2_with fail
        go_ret
        exact ⟨ret_bP Hr.out.symm, HB4.out⟩
end Go.Proofs.YtminjjdnmpaaoaaGreatDoor
set_option autoImplicit false
set_option relaxedAutoImplicit false
set_option linter.unusedVariables false
set_option linter.unusedSimpArgs false
namespace Go.Proofs.YtminjjdnmpaaoaaGreatDoor
open Go.Rows Go.RowKit Go.Shelf Go.Sort

/-- the place as the program tells it -/
def edgeI (l : List Edge) (s : ByteArray) : Int := match edgeIx l s with
  | none => -1
  | some k => (k : Int)
theorem edgeIx_at {l : List Edge} {k : Nat} {e : Edge} (h : l[k]? = some e) (s : ByteArray) : edgeIx (l.drop k) s = if e.label = s then some 0 else (edgeIx (l.drop (k + 1)) s).map (· + 1) := by
  obtain ⟨hk, e'⟩ := List.getElem?_eq_some_iff.1 h
  rw [List.drop_eq_getElem_cons hk, e', edgeIx]

set_option maxHeartbeats 800000 in
theorem formed3_any (x : Edge) (QB : Nat) (s : ByteArray) (w : World) (he : w.cell? ⟨QB, 0, none⟩ = some (.string s)) :
    Calls Tryz.prog 77 #[.agg #[.string x.label, .int .i64 x.to], .pointer (some ⟨QB, 0, none⟩)] w fun e w' => e = .returned (.bool (decide (x.label = s))) ∧ Below w.heap.size w w' := by
  have HR : Hid (decide (x.label = s) = (x.label.toList == s.toList)) := by
    unfold Hid
    by_cases h : x.label = s
    · rw [decide_eq_true h, beq_true h]
    · rw [decide_eq_false h, beq_false h]
  generalize decide (x.label = s) = R at *
  generalize x.label = y0 at *
  have e2 := fun o => (cell_same (Below.heap_alloc w o _ (cell_lt he)) 0 none).trans he
  have HB := fun o => Lib.hid (bal (Below.refl w.heap.size w) o)
  go_enter Tryz.func77, Tryz.ntmps77
  go_wp2_with fail
  go_ret
  exact ⟨ret_bool HR.out.symm, (HB _).out⟩
theorem enters_formed3 : Enters Tryz.prog 77 := enters_of Tryz.func77 (by kernel_rfl) rfl

set_option maxHeartbeats 1600000 in
set_option maxRecDepth 100000 in
theorem indexEdge_any (QB : Nat) (s : ByteArray) (A : Option Addr) (n c : Nat) (xs : List Edge) (w : World) (S : Nat → Prop) (hx : SlV rEdge w S xs (.slice A n c)) (he : w.cell? ⟨QB, 0, none⟩ = some (.string s)) :
    Calls Tryz.prog 76 #[.slice A n c, .func (.func 77) #[] #[.pointer (some ⟨QB, 0, none⟩)]] w fun e w' => e = .returned (.int .i64 (edgeI xs s)) ∧ Below w.heap.size w w' := by
  have hnx := hx.n_eq
  have hcx := hx.cap_le
  unfold maxLen at hcx
  have hn63 : n ≤ 9223372036854775807 := by omega
  have hx' := Lib.hid hx
  have Hend : Hid (edgeIx xs s = (edgeIx (xs.drop 0) s).map (· + 0)) := by unfold Hid; rw [List.drop_zero]; cases edgeIx xs s <;> rfl
  have HR : Hid (∀ r, edgeIx xs s = r → edgeI xs s = match r with | none => -1 | some k => (k : Int)) := by rintro r rfl; rfl
  have Hq : Hid (∀ W (x : Edge), Below w.heap.size w W → Calls Tryz.prog 77 #[.agg #[.string x.label, .int .i64 x.to], .pointer (some ⟨QB, 0, none⟩)] W fun e w' => e = .returned (.bool (decide (x.label = s))) ∧ Below W.heap.size W w') := fun W x hW => formed3_any x QB s W (below_cell hW he (cell_lt he))
  have Hnx := Lib.hid hnx; clear hnx
  clear hcx hx he
  have hent := fun args W => enters_formed3 args W
  generalize edgeI xs s = R at *
  go_enter Tryz.func76, Tryz.ntmps76
  go_wp2_with fail
  go_loopw [8] (fun i wr => ∃ k : Nat, k ≤ n ∧ i = .int .i64 k ∧ Hid (edgeIx xs s = (edgeIx (xs.drop k) s).map (· + k)) ∧ Below w.heap.size w wr) (fun i _ => n - (intOf i).toNat)
  case atStart => exact ⟨0, Nat.zero_le _, rfl, Hend, Below.refl _ _⟩
  case round =>
    obtain ⟨k, hk, rfl, heq, hbel⟩ := hrel
    have hk0 : (0 : Int) ≤ (k : Int) := by omega
    by_cases hlt : k < n
    case neg =>
      have He : Hid (R = -1) := by
        have h := heq.out
        rw [List.drop_eq_nil_of_le (by have := Hnx.out; omega)] at h
        exact HR.out _ h
      have hI : ¬ (k : Int) < (n : Int) := by omega
      clear heq
      go_wp2_with fail
      go_ret
      exact ⟨ret_int He.out.symm, hbel⟩
    have hkn : (k : Int) < (n : Int) := by omega
    obtain ⟨x, hx⟩ : ∃ x, xs[k]? = some x := ⟨_, List.getElem?_eq_getElem (by have := Hnx.out; omega)⟩
    obtain ⟨b, o, cs, rfl, _, hb1, hh, hcell⟩ := (hx'.out.belowSize hbel).elem hx
    obtain ⟨rfl, _⟩ := hh
    have Hcall := Lib.hid (Hq.out wr x hbel)
    have Hat := Lib.hid (edgeIx_at hx s)
    have c0 := hcell 0 _ rfl
    have c1 := hcell 1 _ rfl
    simp only [rEdge, Nat.add_zero] at c0 c1
    clear hcell hx
    by_cases hs : x.label = s
    · rw [decide_eq_true hs] at Hcall
      have He : Hid (R = (k : Int)) := by
        unfold Hid
        have h := heq.out
        rw [Hat.out, if_pos hs] at h
        have h2 := HR.out _ h
        simpa using h2
      generalize x.label = y0 at *
      generalize x.to = y1 at *
      clear Hat heq hs
      go_wp2_with fail
      refine (Hcall.out).mono ?_
      rintro e w1 ⟨rfl, B1⟩
      go_wp2_with fail
      go_ret
      exact ⟨ret_int He.out.symm, bot hbel B1⟩
    · rw [decide_eq_false hs] at Hcall
      have He : Hid (edgeIx xs s = (edgeIx (xs.drop (k + 1)) s).map (· + (k + 1))) := by
        unfold Hid
        rw [heq.out, Hat.out, if_neg hs]
        cases edgeIx (xs.drop (k + 1)) s with
        | none => rfl
        | some j => simp only [Option.map_some]; congr 1; omega
      generalize x.label = y0 at *
      generalize x.to = y1 at *
      clear Hat heq hs
      go_wp2_with fail
      refine (Hcall.out).mono ?_
      rintro e w1 ⟨rfl, B1⟩
      go_wp2_with fail
      go_roundw
      case rel => exact ⟨k + 1, by omega, by go_num, He, bot hbel B1⟩
      case measure => simp [intOf]; omega
end Go.Proofs.YtminjjdnmpaaoaaGreatDoor
