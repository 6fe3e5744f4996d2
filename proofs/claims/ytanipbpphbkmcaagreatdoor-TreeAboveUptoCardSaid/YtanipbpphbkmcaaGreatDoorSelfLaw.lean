/-
  The law WalkupSelf, walked.
-/
import Derived.Test.YtanipbpphbkmcaaGreatDoorLives13
import Derived.Test.YtanipbpphbkmcaaGreatDoorNear
set_option autoImplicit false
set_option relaxedAutoImplicit false
set_option linter.unusedVariables false
set_option linter.unusedSimpArgs false
namespace Go.Proofs.YtanipbpphbkmcaaGreatDoor
open Go.Rows Go.RowKit Go.Shelf Go.Sort

/-- the last name of a path: where it lies -/
theorem last_cell {w : World} {S : Nat → Prop} {p : List ByteArray} {pA : Option Addr} {n pa q : Nat} (hp : SlV rStr w S p (.slice pA n pa)) (hq : p.length = q + 1) :
    ∃ g u, pA = some ⟨g, u, none⟩ ∧ g < w.heap.size ∧ w.cell? ⟨g, u + q, none⟩ = some (.string (lastN p)) ∧ (lastN p).size ≤ maxLen := by
  have hq' : q < p.length := by omega
  obtain ⟨g, u, cs', rfl, _, hg, ⟨rfl, hs⟩, hc⟩ := hp.elem (List.getElem?_eq_getElem hq')
  have := hc 0 _ rfl
  simp only [rStr, Nat.add_zero, Nat.mul_one] at this
  have e : lastN p = p[q] := by unfold lastN; rw [hq, List.getD_eq_getElem?_getD, show q + 1 - 1 = q from rfl, List.getElem?_eq_getElem hq']; rfl
  exact ⟨g, u, rfl, hg, by rw [e]; exact this, by rw [e]; exact hs⟩

set_option maxHeartbeats 3200000 in
set_option maxRecDepth 100000 in
theorem walkupSelf_any (A : Option Addr) (n c : Nat) (xs : List Dir) (w : World) (ht : Tab w) (hx : SlV rDir w (fun b => b < w.heap.size) xs (.slice A n c)) (hlen : ∀ d ∈ xs, d.path.length * 32 ≤ 140737488355328) :
    Calls Tryz.prog 6 #[.agg #[.slice A n c]] w fun e w' => e = .returned (.bool true) ∧ Below w.heap.size w w' := by
  have hnx := hx.n_eq
  have hcx := hx.cap_le
  unfold maxLen at hcx
  have hn63 : n ≤ 9223372036854775807 := by omega
  have HX := Lib.hid hx
  have Hck : Hid (∀ W, Below w.heap.size w W → Calls Tryz.prog 11 #[.agg #[.slice A n c]] W fun e w' => e = .returned (.int .i64 (checkE xs)) ∧ Below W.heap.size W w') := fun W hW => refCheck_any A n c xs W _ hlen (hx.belowSize hW)
  have Hfd : Hid (∀ W p vA m vc (S' : Nat → Prop), Below w.heap.size w W → SlV rStr W S' p (.slice vA m vc) → Calls Tryz.prog 18 #[.agg #[.slice A n c], .slice vA m vc] W fun e w' => e = .returned (.int .i64 (findI xs p)) ∧ Below W.heap.size W w') := fun W p vA m vc S' hW hv => refFind_any _ _ _ _ _ _ xs p W _ _ (hx.belowSize hW) hv
  have Hlk : Hid (∀ W (i : Int) (s : ByteArray), s.size ≤ maxLen → Below w.heap.size w W → Calls Tryz.prog 16 #[.agg #[.slice A n c], .int .i64 i, .string s] W fun e w' => e = .returned (.int .i64 (lookI xs i s)) ∧ Below W.heap.size W w') := fun W i s hs hW => look_any A n c xs s W _ i hs hlen (hx.belowSize hW)
  have Hlv : Hid (∀ W, Below w.heap.size w W → Calls Tryz.prog 15 #[] W fun e w' => e = .returned (.bool true) ∧ Below W.heap.size W w') := fun W hW => lives13_any W (tab_below ht hW)
  have Hsf : Hid (checkE xs = 0 → ∀ k (hk : k < xs.length), 1 ≤ k → xs[k].path ≠ [] ∧ lookI xs (k : Int) (lastN xs[k].path) = if findI xs (xs[k].path ++ [lastN xs[k].path]) < 0 then (k : Int) else findI xs (xs[k].path ++ [lastN xs[k].path])) := fun h k hk h1 => ⟨(stands_of h hk h1).1, self_plain h hk h1⟩
  have Hlen : Hid (∀ d ∈ xs, d.path.length * 32 ≤ 140737488355328) := hlen
  have Hnx := Lib.hid hnx
  clear hx hlen ht hnx hcx
  generalize checkE xs = E at *
  go_enter Tryz.func6, Tryz.ntmps6
  go_wp2_with fail
  obtain ⟨w0, hw0⟩ : ∃ w0, w0 = w.alloc (.cells #[.slice A n c] 24) := ⟨_, rfl⟩
  have hz : w.heap.size < w0.heap.size := by rw [hw0]; simp [go_sem]
  have HB0 : Hid (Below w.heap.size w w0) := by unfold Hid; rw [hw0]; exact bal (Below.refl _ _) _
  have a0 : w0.cell? ⟨w.heap.size, 0, none⟩ = some (.slice A n c) := by rw [hw0]; simp [go_sem]
  rw [← hw0]
  clear hw0
  have HA0 := Lib.hid a0
  refine (Hck.out w0 HB0.out).mono ?_
  rintro e w1 ⟨rfl, B1⟩
  have Q1 := Lib.hid B1; clear B1 Hck a0
  by_cases hE : E = 0
  case neg =>
    have hEb : (E != 0) = true := by simp [hE]
    clear hE
    go_wp2_with fail
    refine (Hlv.out w1 (bot HB0.out Q1.out)).mono ?_
    rintro e w2 ⟨rfl, B2⟩
    go_wp2_with fail
    go_ret
    exact ⟨rfl, bot HB0.out (bot Q1.out B2)⟩
  have hEb : (E != 0) = false := by simp [hE]
  have HSf := Lib.hid (Hsf.out hE)
  clear hE Hsf
  go_wp2_with fail
  go_loopw [3] (fun i wr => ∃ k : Nat, 1 ≤ k ∧ (k ≤ n ∨ k = 1) ∧ i = .int .i64 k ∧ Below w0.heap.size w0 wr) (fun i _ => n - (intOf i).toNat)
  case atStart => exact ⟨1, Nat.le_refl _, .inr rfl, rfl, Q1.out⟩
  case round =>
    obtain ⟨k, hk1, hkn, rfl, hbel⟩ := hrel
    have b0 := below_cell hbel HA0.out hz
    have hbw := bot HB0.out hbel
    by_cases hlt : k < n
    case neg =>
      have hlt' : ¬ (k : Int) < (n : Int) := by omega
      go_wp2_with fail
      refine (Hlv.out wr hbw).mono ?_
      rintro e w2 ⟨rfl, B2⟩
      go_wp2_with fail
      go_ret
      exact ⟨rfl, bot hbw B2⟩
    have hkx : k < xs.length := by have := Hnx.out; omega
    obtain ⟨b, o, cs, rfl, _, hb1, hh, hcell⟩ := (HX.out.below hbw (fun b h => h)).elem (List.getElem?_eq_getElem hkx)
    obtain ⟨s0, s1, s2, s3, rfl, hp, _, _, _, _, _, _, _, _⟩ := hh
    obtain ⟨pA, pc, rfl, hpl, hpm⟩ := hp.val
    unfold maxLen at hpm
    have c0 := hcell 0 _ rfl
    simp only [rDir, Nat.add_zero] at c0
    obtain ⟨hne, hsf⟩ := HSf.out k hkx hk1
    have hlk := Hlen.out xs[k] (List.getElem_mem hkx)
    clear hcell
    generalize xs[k].path = path at *
    obtain ⟨q, hq⟩ : ∃ q, path.length = q + 1 := ⟨path.length - 1, by have := List.length_pos_iff.2 hne; omega⟩
    obtain ⟨g, u, rfl, hg, hlc, hls⟩ := last_cell hp hq
    have HP := Lib.hid hp
    have Hsfk := Lib.hid hsf
    have Hls := Lib.hid hls
    have Hlen2 : Hid ((path ++ [lastN path]).length = q + 1 + 1) := by unfold Hid; rw [List.length_append, hq]; rfl
    have Hq := Lib.hid hq
    rw [hq] at c0 hpl hlk
    have hkI : (k : Int) < (n : Int) := by omega
    have hk0 : (0 : Int) ≤ (k : Int) := by omega
    have hw1 : IntKind.i64.wrap ((k : Int) + 1) = (k : Int) + 1 := IntWalk.i64_in _ ⟨by omega, by omega⟩
    clear hne hsf hls hp hq hkn
    generalize hln : lastN path = ln at *
    clear hln
    go_wp2_with (at_builtin; refine wpList_extend (by rfl) _ _ _ (by rfl) elt_string Tryz.underlying37 (by rfl) (Own.nil_ rStr wr wr.heap.size 9 (S := fun _ => False) (fun b h => h.elim)) (fun b => b < wr.heap.size) path _ _ _ (by rfl) (by rw [← Hq.out]; exact HP.out.more fun b h1 h2 => h2) (by intro b hb he; simp [Value.ownBlock] at he) (by rw [Hq.out]; simp [maxLen]; omega) (by rw [Hq.out]; simp; omega) (by simp) ?_)
    intro v2 w2 hown2 hgrow2 hat2
    have HB2 : Hid (Below wr.heap.size wr w2) := (Below.refl _ _).grown hgrow2 (Nat.le_refl _) (fun k hk => by simp [Value.ownBlock] at hk)
    have Hown2 : Hid (Own rStr w2 wr.heap.size 9 v2 path (fun b => b < wr.heap.size)) := hown2
    have hw2 := HB2.out.size
    have Hlen : Hid (path.length = q + 1) := Hq.out
    clear hown2 hgrow2 hat2 c0 hlc
    go_wp2_with (at_builtin; refine wpList_push (by rfl) _ _ _ (by rfl) elt_string Tryz.underlying37 (by rfl) (Hown2.out.alloc _) ⟨w2.heap.size, 0, none⟩ 1 [.string ln] ln (by rfl) ⟨rfl, Hls.out⟩ (news_of w2 #[.string ln] _) (by rw [Hlen.out]; unfold maxLen; omega) (by rw [Hlen.out]; omega) (by simp; omega) (w2.heap.size + 1) (by simp) ?_)
    intro g9 cap9 w9 hown9 hgrow9 hat9 hlt9
    have HB9 := Lib.hid (bgrown (bal HB2.out _) hgrow9 (Hown2.out.alloc _) (Nat.le_refl _))
    have Hown9 := Lib.hid hown9
    clear hown9 hgrow9
    have c9 := below_cell (bot hbel HB9.out) HA0.out hz
    have Q9 := Lib.hid (bot hbw HB9.out)
    have Hv9 := Lib.hid Hown9.out.slv
    clear b0 Hown9 Hown2
    go_wp2_with fail
    refine (Hfd.out w9 _ _ _ _ _ Q9.out Hv9.out).mono ?_
    rintro e w10 ⟨rfl, B10⟩
    have d0 := below_cell B10 c9 (Nat.lt_of_lt_of_le hz (bot hbel HB9.out).size)
    have Q10 := Lib.hid (bot Q9.out B10)
    have QB10 := Lib.hid (bot (bot hbel HB9.out) B10)
    clear c9 B10 Hv9
    generalize findI xs (path ++ [ln]) = F at *
    by_cases hF : F < 0
    · have hFb : decide (F < 0) = true := decide_eq_true hF
      have He : Hid (lookI xs (k : Int) ln = (k : Int)) := by unfold Hid; rw [Hsfk.out, if_pos hF]
      clear hF
      go_wp2_with fail
      refine (Hlk.out w10 (k : Int) ln Hls.out Q10.out).mono ?_
      rintro e w11 ⟨rfl, B11⟩
      have Q11 := Lib.hid (bot QB10.out B11)
      have hk2 : ((k : Int) != (k : Int)) = false := by simp
      rw [He.out]
      clear B11 d0
      go_wp2_with fail
      go_roundw
      case rel => exact ⟨k + 1, by omega, .inl (by omega), by go_num, Q11.out⟩
      case measure => simp [intOf]; omega
    · have hFb : decide (F < 0) = false := decide_eq_false hF
      have He : Hid (lookI xs (k : Int) ln = F) := by unfold Hid; rw [Hsfk.out, if_neg hF]
      clear hF
      go_wp2_with fail
      refine (Hlk.out w10 (k : Int) ln Hls.out Q10.out).mono ?_
      rintro e w11 ⟨rfl, B11⟩
      have Q11 := Lib.hid (bot QB10.out B11)
      have hk2 : (F != F) = false := by simp
      rw [He.out]
      clear B11 d0
      go_wp2_with fail
      go_roundw
      case rel => exact ⟨k + 1, by omega, .inl (by omega), by go_num, Q11.out⟩
      case measure => simp [intOf]; omega
end Go.Proofs.YtanipbpphbkmcaaGreatDoor
