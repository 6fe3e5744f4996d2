/-
  A line of a package's text: pack.dep, walked.
-/
import Derived.Test.YtldjldkejjeamaaGreatDoorSParse
import Derived.Test.YtldjldkejjeamaaGreatDoorPackE
import Derived.Test.YtldjldkejjeamaaGreatDoorRefLines
set_option autoImplicit false
set_option relaxedAutoImplicit false
set_option linter.unusedVariables false
set_option linter.unusedSimpArgs false
namespace Go.Proofs.YtldjldkejjeamaaGreatDoor
open Go.Rows Go.RowKit Go.Shelf Go.Sort

/-- what a line's reader answers -/
def DepR (prev : Option ByteArray) (ws : List ByteArray) (w : World) (e : Ending) (w' : World) : Prop :=
  Below w.heap.size w w' ∧ ((∃ k, depE prev ws = .error k ∧ e = .returned (.tuple #[.agg #[.string ⟨#[]⟩, .slice none 0 0], .int .i64 k])) ∨
    (∃ d v, depE prev ws = .ok d ∧ e = .returned (.tuple #[.agg #[.string d.name, v], .int .i64 0]) ∧ SlV rSpn w' (Fresh w.heap.size w') d.range v))
theorem depE_short {prev : Option ByteArray} {ws : List ByteArray} (h : ws.length < 3) : depE prev ws = .error 22 := by
  match ws, h with
  | [], _ => rfl
  | [_], _ => rfl
  | [_, _], _ => rfl
theorem depE_cons (prev : Option ByteArray) (a nm r : ByteArray) (rest : List ByteArray) : depE prev (a :: nm :: r :: rest) = if (nameB nm && behind prev nm) = true then (if (parseQ (joinS (r :: rest))).2 = 0 ∧ (parseQ (joinS (r :: rest))).1 ≠ [] then .ok ⟨nm, (parseQ (joinS (r :: rest))).1⟩ else .error 21) else .error 23 := rfl
theorem depE_bad {prev : Option ByteArray} {a nm r : ByteArray} {rest : List ByteArray} (h : (nameB nm && behind prev nm) = false) : depE prev (a :: nm :: r :: rest) = .error 23 := by
  rw [depE_cons, if_neg (by rw [h]; decide)]
theorem depE_no {prev : Option ByteArray} {a nm r : ByteArray} {rest : List ByteArray} (h : (nameB nm && behind prev nm) = true) (h2 : (parseQ (joinS (r :: rest))).2 ≠ 0 ∨ (parseQ (joinS (r :: rest))).1 = []) : depE prev (a :: nm :: r :: rest) = .error 21 := by
  rw [depE_cons, if_pos h, if_neg (by rintro ⟨q1, q2⟩; rcases h2 with h2 | h2 <;> contradiction)]
theorem depE_ok {prev : Option ByteArray} {a nm r : ByteArray} {rest : List ByteArray} (h : (nameB nm && behind prev nm) = true) (h2 : (parseQ (joinS (r :: rest))).2 = 0) (h3 : (parseQ (joinS (r :: rest))).1 ≠ []) : depE prev (a :: nm :: r :: rest) = .ok ⟨nm, (parseQ (joinS (r :: rest))).1⟩ := by
  rw [depE_cons, if_pos h, if_pos ⟨h2, h3⟩]
theorem joinS_tail (a : ByteArray) (l : List ByteArray) : (joinS l).size ≤ (joinS (a :: l)).size := by
  rw [size_data, size_data]
  unfold joinS
  cases l with
  | nil => simp [mkB, Lib.join]
  | cons b l =>
    show (Lib.join _ _).length ≤ (Lib.join _ _).length
    rw [List.map_cons (a := a), List.map_cons, Lib.join_cons a.data.toList]
    simp only [Lib.joinTail, List.length_append, List.map_cons, List.flatten_cons, Lib.join_cons]
    omega
theorem lastN_nil : lastN [] = none := rfl
theorem lastN_at {l : List Dep} {k : Nat} (h : l.length = k + 1) : lastN l = some (l[k]'(by omega)).name := by
  unfold lastN
  rw [List.getLast?_eq_getElem?, show l.length - 1 = k from by omega, List.getElem?_eq_getElem (by omega)]
  rfl

set_option maxHeartbeats 4000000 in
set_option maxRecDepth 100000 in
theorem dep_any (ws : List ByteArray) (ds : List Dep) (A : Option Addr) (n c : Nat) (A2 : Option Addr) (n2 c2 : Nat) (w : World) (S T : Nat → Prop) (hv : Vok w) (hx : SlV rStr w S ws (.slice A n c)) (hy : SlV rDep w T ds (.slice A2 n2 c2)) (hz : (joinS ws).size ≤ 1000000) (hn : ws.length ≤ 1000000) :
    Calls Tryz.prog 50 #[.slice A n c, .slice A2 n2 c2] w (DepR (lastN ds) ws w) := by
  have hnx := hx.n_eq
  have hnx2 := hy.n_eq
  have hcc := hx.cap_le
  have hcc2 := hy.cap_le
  unfold maxLen at hcc hcc2
  by_cases h3 : n < 3
  · have Hd : Hid (depE (lastN ds) ws = .error 22) := depE_short (by omega)
    have hI : (n : Int) < 3 := by omega
    clear hx hy hnx hnx2
    go_enter Tryz.func50, Tryz.ntmps50
    go_wp2_with fail
    refine ret_rk rfl rfl rfl rfl (heap_alloc_new w _) Tryz.underlying38 rfl (by kernel_rfl) ⟨bal (Below.refl _ _) _, .inl ⟨_, Hd.out, rfl⟩⟩
  · obtain ⟨a, nm, r, rest, rfl⟩ : ∃ a nm r rest, ws = a :: nm :: r :: rest := by
      match ws, hnx with
      | [], h => simp at h; omega
      | [_], h => simp at h; omega
      | [_, _], h => simp at h; omega
      | a :: nm :: r :: rest, _ => exact ⟨a, nm, r, rest, rfl⟩
    have hlen : n = rest.length + 3 := by rw [hnx]; rfl
    obtain ⟨bk, ok, cs, rfl, hSb, hbl, ⟨rfl, hnz⟩, hcell⟩ := hx.elem (i := 1) (x := nm) rfl
    have e1 := hcell 0 _ rfl
    simp only [rStr, Nat.add_zero, Nat.mul_one] at e1
    clear hcell
    have hjc : ∀ (j : Nat) x, (r :: rest)[j]? = some x → w.cell? ⟨bk, (ok + 2) + j, none⟩ = some (.string x) := fun j x hx' => by
      obtain ⟨b, o, cs, hA, _, _, ⟨rfl, _⟩, hcell⟩ := hx.elem (i := j + 2) (x := x) hx'
      injection hA with hA
      injection hA with hb ho _
      subst hb ho
      have := hcell 0 _ rfl
      simp only [rStr, Nat.add_zero, Nat.mul_one] at this
      rw [show ok + 2 + j = ok + (j + 2) from by omega]
      exact this
    have hjz : (joinS (r :: rest)).size ≤ 1000000 := Nat.le_trans (Nat.le_trans (joinS_tail nm _) (joinS_tail a _)) hz
    have hrl : (r :: rest).length = n - 2 := by rw [hlen]; simp
    have HJ : Hid (∀ W, Below w.heap.size w W → Calls Tryz.prog 70 #[.slice (some ⟨bk, ok + 2, none⟩) (n - 2) (c - 2), .string ⟨#[32]⟩] W fun e w' => e = .returned (.string (joinS (r :: rest))) ∧ Below W.heap.size W w') := fun W hW => by
      have := Tryz.strings_Join bk (ok + 2) (c - 2) (r :: rest) ⟨#[32]⟩ W (fun j x hx' => below_cell hW (hjc j x hx') hbl) (Nat.lt_of_lt_of_le hbl hW.size) (by rw [hrl]; omega) (by rw [hrl]; omega) (by
        have h1 := hjz
        rw [size_data] at h1
        exact Nat.le_trans h1 (by decide))
      rw [hrl] at this
      exact this
    obtain ⟨pl, pe, hpq⟩ : ∃ pl pe, parseQ (joinS (r :: rest)) = (pl, pe) := ⟨_, _, rfl⟩
    have HP : Hid (∀ W, Below w.heap.size w W → Calls Tryz.prog 69 #[.string (joinS (r :: rest))] W fun e w' => ∃ v, e = .returned (.tuple #[v, .int .i64 pe]) ∧ Own rSpn w' W.heap.size 40 v pl (fun _ => False) ∧ Below W.heap.size W w') := fun W hW => by
      have := spanParseO_any (joinS (r :: rest)) W (hv.below hW) (by omega)
      rw [hpq] at this
      exact this
    have hcase : (nameB nm = false ∧ depE (lastN ds) (a :: nm :: r :: rest) = .error 23) ∨ (nameB nm = true ∧ n2 = 0 ∧ behind (lastN ds) nm = true) ∨
        (nameB nm = true ∧ ∃ q : Nat, ∃ bd od pn, n2 = q + 1 ∧ A2 = some ⟨bd, od, none⟩ ∧ bd < w.heap.size ∧ w.cell? ⟨bd, od + q * 2, none⟩ = some (.string pn) ∧ behind (lastN ds) nm = Op.bytesLess pn.toList nm.toList) := by
      cases h1 : nameB nm
      · exact .inl ⟨rfl, depE_bad (by rw [h1]; rfl)⟩
      · by_cases h2 : n2 = 0
        · refine .inr (.inl ⟨rfl, h2, ?_⟩)
          rw [List.eq_nil_of_length_eq_zero (by omega : ds.length = 0)]; rfl
        · refine .inr (.inr ⟨rfl, n2 - 1, ?_⟩)
          obtain ⟨b', o', cs', hA', _, hbl', ⟨s1, rfl, hnm', _⟩, hcell'⟩ := hy.elem (i := n2 - 1) (List.getElem?_eq_getElem (by omega))
          have e0 := hcell' 0 _ rfl
          simp only [rDep, Nat.add_zero] at e0
          exact ⟨b', o', _, by omega, hA', hbl', e0, by rw [lastN_at (k := n2 - 1) (by omega)]; rfl⟩
    have Hbad := Lib.hid (fun h => depE_bad (prev := lastN ds) (a := a) (nm := nm) (r := r) (rest := rest) h)
    have Hno : Hid ((nameB nm && behind (lastN ds) nm) = true → (pe ≠ 0 ∨ pl = []) → depE (lastN ds) (a :: nm :: r :: rest) = .error 21) := fun h h2 => depE_no h (by rw [hpq]; exact h2)
    have Hok : Hid ((nameB nm && behind (lastN ds) nm) = true → pe = 0 → pl ≠ [] → depE (lastN ds) (a :: nm :: r :: rest) = .ok ⟨nm, pl⟩) := fun h h2 h3 => by
      have := depE_ok (prev := lastN ds) (a := a) (nm := nm) (r := r) (rest := rest) h (by rw [hpq]; exact h2) (by rw [hpq]; exact h3)
      rw [hpq] at this
      exact this
    clear hpq
    generalize joinS (r :: rest) = JS at *
    obtain ⟨DE, hDE⟩ : ∃ DE, depE (lastN ds) (a :: nm :: r :: rest) = DE := ⟨_, rfl⟩
    rw [hDE] at Hbad Hno Hok hcase
    have HDE := Lib.hid hDE
    have HN : Hid (∀ W, Calls Tryz.prog 36 #[.string nm] W fun e w' => e = .returned (.bool (nameB nm)) ∧ Below W.heap.size W w') := fun W => scanName_any nm hnz W
    have hn3 : 3 ≤ n := by omega
    have hc3 : 3 ≤ c := by have := hcc.1; simp only [List.length_cons] at this; omega
    have hsl : ∀ W, (Instr.slice 61 (.slice (some ⟨bk, ok, none⟩) n c) (some (.int .i64 2)) none none).run Tryz.prog W = .ok (.slice (some ⟨bk, ok + 2, none⟩) (n - 2) (c - 2)) W := fun W => by
      have := run_from (P := Tryz.prog) (t := 61) (e := 9) (z := 1) Tryz.underlying61 (by kernel_rfl) (fun _ => by kernel_rfl) (some ⟨bk, ok, none⟩) n c 2 (by omega) W
      rw [if_neg (by omega), Option.map_some, add_lit'] at this
      exact this
    clear hcc
    have hn9 : n ≤ 1000000 := by rw [hnx]; exact hn
    have hn29 : n2 ≤ 9223372036854775807 := by omega
    clear hx hy hjc hrl hz hlen hn hjz hnx hnx2 hDE
    have hI : ¬ (n : Int) < 3 := by omega
    have hn1 : (1 : Int) < (n : Int) := by omega
    go_enter Tryz.func50, Tryz.ntmps50
    go_wp2_with fail
    obtain ⟨w1, hw1⟩ : ∃ w1, w1 = w.alloc (.cells #[.string ⟨#[]⟩, .slice none 0 0] 38) := ⟨_, rfl⟩
    have hr1 : w1.heap[w.heap.size]? = some (.cells #[.string ⟨#[]⟩, .slice none 0 0] 38 (0, 0)) := by rw [hw1]; exact heap_alloc_new w _
    have HB1 : Hid (Below w.heap.size w w1) := by unfold Hid; rw [hw1]; exact bal (Below.refl _ _) _
    have hz1 : w.heap.size < w1.heap.size := (Array.getElem?_eq_some_iff.1 hr1).1
    rw [← hw1]
    clear hw1
    have c1 := below_cell HB1.out e1 hbl
    have HNq := Lib.hid (qcall (w := w1) (fun W _ => HN.out W))
    rcases hcase with ⟨h1, hd⟩ | ⟨h1, rfl, hbh⟩ | ⟨h1, q, bd, od, pn, rfl, rfl, hbd, hpc, hbh⟩
    · rw [h1] at HNq
      have Hd := Lib.hid hd; clear hd
      have Hr1 := Lib.hid hr1; clear hr1
      have Hz1 := Lib.hid hz1; clear hz1
      clear e1 HN h1 HJ HP Hbad Hno Hok hv
      have r_c1 := cell_regrown c1
      go_wp2_with fail
      refine wp_region_qb (by kernel_rfl) (by kernel_rfl) ?_
      repeat (go_big_quiet_step (first | (with_reducible exact HNq.out _ _)))
      refine wpQuiet_nil ?_
      intro w2 B2
      have hr2 := (B2.block _ Hz1.out).trans Hr1.out
      obtain ⟨⟨d0, d1⟩, f0, f1⟩ := row2 hr2
      have Hr2 := Lib.hid hr2
      have HB2 := Lib.hid (bot HB1.out B2)
      clear hr2 B2 Hr1 HB1
      go_wp2_with fail
      refine ret_rk rfl rfl rfl rfl (heap_set2 Hr2.out _ _) Tryz.underlying38 rfl (by kernel_rfl) ⟨?_, .inl ⟨_, HDE.out.trans Hd.out, rfl⟩⟩
      exact (HB2.out.setCell (Nat.le_refl _) _).setCell (Nat.le_refl _) _
    rotate_left
    focus
      have hlw : IntKind.i64.wrap (((q + 1 : Nat) : Int) - 1) = (q : Int) := (IntWalk.i64_in _ ⟨by omega, by omega⟩).trans (by omega)
      have hlw2 : IntKind.i64.wrap ((q : Int) + 1 - 1) = (q : Int) := (IntWalk.i64_in _ ⟨by omega, by omega⟩).trans (by omega)
      have hq0 : (0 : Int) ≤ (q : Int) := by omega
      have hq1 : (0 : Int) < (q : Int) + 1 := by omega
      have hq3 : (q : Int) < (q : Int) + 1 := by omega
      have c2 := below_cell HB1.out hpc hbd
      rw [h1] at HNq
      have hb' := hbh
      cases hls : Op.bytesLess pn.toList nm.toList
      · have hd := Hbad.out (by rw [h1, hbh, hls]; rfl)
        have Hd := Lib.hid hd; clear hd
        have Hr1 := Lib.hid hr1; clear hr1
        have Hz1 := Lib.hid hz1; clear hz1
        clear e1 HN h1 HJ HP Hbad Hno Hok hv hb' hbh hpc
        have r_c1 := cell_regrown c1
        have r_c2 := cell_regrown c2
        go_wp2_with fail
        refine wp_region_qb (by kernel_rfl) (by kernel_rfl) ?_
        repeat (go_big_quiet_step (first | (with_reducible exact HNq.out _ _)))
        refine wpQuiet_nil ?_
        intro w2 B2
        have hr2 := (B2.block _ Hz1.out).trans Hr1.out
        obtain ⟨⟨d0, d1⟩, f0, f1⟩ := row2 hr2
        have Hr2 := Lib.hid hr2
        have HB2 := Lib.hid (bot HB1.out B2)
        clear hr2 B2 Hr1 HB1
        go_wp2_with fail
        refine ret_rk rfl rfl rfl rfl (heap_set2 Hr2.out _ _) Tryz.underlying38 rfl (by kernel_rfl) ⟨?_, .inl ⟨_, HDE.out.trans Hd.out, rfl⟩⟩
        exact (HB2.out.setCell (Nat.le_refl _) _).setCell (Nat.le_refl _) _
      focus
        have hg : (nameB nm && behind (lastN ds) nm) = true := by rw [h1, hbh, hls]; rfl
        have Hno' := Lib.hid (Hno.out hg)
        have Hok' := Lib.hid (Hok.out hg)
        have Hr1 := Lib.hid hr1; clear hr1
        have Hz1 := Lib.hid hz1; clear hz1
        clear HN h1 Hbad hb' hbh hpc Hno Hok hg
        have r_c1 := cell_regrown c1
        have r_c2 := cell_regrown c2
        go_wp2_with fail
        refine wp_region_qb (by kernel_rfl) (by kernel_rfl) ?_
        repeat (go_big_quiet_step (first | (with_reducible exact HNq.out _ _)))
        refine wpQuiet_nil ?_
        intro w2 B2
        clear r_c1 r_c2 c1 c2 hlw hlw2 hq0 hq1 hq3
    rotate_left
    focus
      have hg : (nameB nm && behind (lastN ds) nm) = true := by rw [h1, hbh]; rfl
      rw [h1] at HNq
      have Hno' := Lib.hid (Hno.out hg)
      have Hok' := Lib.hid (Hok.out hg)
      have Hr1 := Lib.hid hr1; clear hr1
      have Hz1 := Lib.hid hz1; clear hz1
      clear HN h1 Hbad hbh Hno Hok hg
      have r_c1 := cell_regrown c1
      go_wp2_with fail
      refine wp_region_qb (by kernel_rfl) (by kernel_rfl) ?_
      repeat (go_big_quiet_step (first | (with_reducible exact HNq.out _ _)))
      refine wpQuiet_nil ?_
      intro w2 B2
      clear r_c1 c1
    all_goals
      have hr2 := (B2.block _ Hz1.out).trans Hr1.out
      have HB2 := Lib.hid (bot HB1.out B2)
      have hz2 := Nat.lt_of_lt_of_le Hz1.out B2.size
      have Hr2 := Lib.hid hr2
      have Hz2 := Lib.hid hz2
      clear B2 Hr1 HB1 Hz1 hr2 hz2 HNq
      go_wp2_with fail
      refine (HJ.out w2 HB2.out).mono ?_
      rintro e w3 ⟨rfl, hb3⟩
      have HB3 := Lib.hid (bot HB2.out hb3)
      have Hr3 := Lib.hid ((hb3.block _ Hz2.out).trans Hr2.out)
      have Hz3 := Lib.hid (Nat.lt_of_lt_of_le Hz2.out hb3.size)
      clear hb3 HB2 Hr2 Hz2 HJ
      go_wp2_with fail
      refine (HP.out w3 HB3.out).mono ?_
      rintro e w4 ⟨v4, rfl, ho4, hb4⟩
      have HB4 := Lib.hid (bot HB3.out hb4)
      have hr4 := (hb4.block _ Hz3.out).trans Hr3.out
      obtain ⟨⟨d0, d1⟩, f0, f1⟩ := row2 hr4
      have Hr4 := Lib.hid hr4
      have hs4 := ho4.slvF (fun b hb => hb.elim)
      obtain ⟨A4, c4, rfl, hcl4, hcm4⟩ := hs4.val
      have Hs4 := Lib.hid hs4
      have e4 := below_cell HB4.out e1 hbl
      clear hb4 ho4 hs4 HB3 Hr3 HP hr4 e1
      unfold maxLen at hcm4
      by_cases hpe : pe = 0
      case neg =>
        have hd := Hno'.out (.inl hpe)
        subst hd
        have hbe : (pe != 0) = true := by simpa using hpe
        clear hpe Hno' Hok' Hs4 Hz3
        go_wp2_with fail
        refine ret_rk rfl rfl rfl rfl (heap_set2 Hr4.out _ _) Tryz.underlying38 rfl (by kernel_rfl) ⟨?_, .inl ⟨_, HDE.out, rfl⟩⟩
        exact (HB4.out.setCell (Nat.le_refl _) _).setCell (Nat.le_refl _) _
      by_cases hpl : pl = []
      · have hd := Hno'.out (.inr hpl)
        subst hd hpe hpl
        clear Hno' Hok' Hs4 Hz3
        go_wp2_with fail
        refine ret_rk rfl rfl rfl rfl (heap_set2 Hr4.out _ _) Tryz.underlying38 rfl (by kernel_rfl) ⟨?_, .inl ⟨_, HDE.out, rfl⟩⟩
        exact (HB4.out.setCell (Nat.le_refl _) _).setCell (Nat.le_refl _) _
      · have hd := Hok'.out hpe hpl
        subst hd hpe
        have hnl : 0 < pl.length := List.length_pos_iff.2 hpl
        obtain ⟨m4, hm4⟩ : ∃ m, m = pl.length := ⟨_, rfl⟩
        rw [← hm4] at Hs4 hcl4 hnl ⊢
        have hml : ((m4 : Int) == 0) = false := by rw [beq_eq_false_iff_ne]; omega
        clear hpl Hno' Hok' hm4 hnl
        go_wp2_with fail
        refine ret_rk rfl rfl rfl rfl (heap_set2 Hr4.out _ _) Tryz.underlying38 rfl (by kernel_rfl) ⟨?_, .inr ⟨⟨nm, pl⟩, _, HDE.out, rfl, ?_⟩⟩
        · exact (HB4.out.setCell (Nat.le_refl _) _).setCell (Nat.le_refl _) _
        · refine fresh_keep Hs4.out (Nat.le_of_lt Hz3.out) fun b hb hl => ?_
          have hne : b ≠ w.heap.size := by have := Hz3.out; omega
          exact (Below.heap_setCell _ _ _ b hne).trans (Below.heap_setCell _ _ _ b hne)
end Go.Proofs.YtldjldkejjeamaaGreatDoor
