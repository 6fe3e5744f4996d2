/-
  manifest.Parse: a manifest is read, walked.
  manifest.Parse: a manifest is read, walked: the whole.
  The document's reader of manifests (halyardref06.Parse), walked.
-/
import Derived.Test.YtldjldkejjeamaaGreatDoorMani2
import Derived.Test.YtldjldkejjeamaaGreatDoorDepA
import Derived.Test.YtldjldkejjeamaaGreatDoorScanL
import Derived.Deep.RegionLaw
set_option autoImplicit false
set_option relaxedAutoImplicit false
set_option linter.unusedVariables false
set_option linter.unusedSimpArgs false
namespace Go.Proofs.YtldjldkejjeamaaGreatDoor
open Go.Rows Go.RowKit Go.Shelf Go.Sort

/-! ### what a reader of manifests answers, case by case -/
def maniZ : Mani := ⟨[], [], [], []⟩
noncomputable def maniQ (t : ByteArray) : Mani × Int := match maniE t with
  | .error k => (maniZ, k)
  | .ok m => (m, 0)
theorem maniQ_bad {t : ByteArray} {L : List (List ByteArray)} {en : Int} (h : scanQ 4096 t = (L, en)) (h0 : en ≠ 0) : maniQ t = (maniZ, en) := by
  unfold maniQ maniE
  rw [h, if_pos h0]
theorem maniQ_form {t : ByteArray} {L : List (List ByteArray)} (h : scanQ 4096 t = (L, 0)) (h0 : ∀ r, L ≠ [projectW] :: r) : maniQ t = (maniZ, 22) := by
  unfold maniQ maniE
  rw [h, if_neg (by simp)]
  match L, h0 with
  | [], _ => rfl
  | [] :: _, _ => rfl
  | [a] :: r, h0 =>
    simp only
    by_cases ha : a = projectW
    · subst ha; exact absurd rfl (h0 r)
    · rw [if_pos (fun e => ha (data_inj e))]
  | (_ :: _ :: _) :: _, _ => rfl
theorem maniQ_line {t : ByteArray} {rest : List (List ByteArray)} (h : scanQ 4096 t = ([projectW] :: rest, 0)) :
    (∀ e, listsE maniOrder rest (0, rm 4 fun _ => []) = .error e → maniQ t = (maniZ, e)) ∧
    (∀ l, listsE maniOrder rest (0, rm 4 fun _ => []) = .ok (rm 4 l) → (maniB ⟨l 0, l 1, l 2, l 3⟩ = false → maniQ t = (maniZ, 25)) ∧ (maniB ⟨l 0, l 1, l 2, l 3⟩ = true → maniQ t = (⟨l 0, l 1, l 2, l 3⟩, 0))) := by
  have hr : rm 4 (fun _ => []) = [[], [], [], []] := rfl
  unfold maniQ maniE
  rw [h, if_neg (by simp)]
  simp only
  rw [if_neg (by simp)]
  refine ⟨fun e he => ?_, fun l hl => ⟨fun hb => ?_, fun hb => ?_⟩⟩
  · rw [hr] at he; rw [he]
  all_goals
    rw [hr] at hl
    rw [hl, show rm 4 l = [l 0, l 1, l 2, l 3] from rfl]
    simp only
  · rw [if_neg (by rw [hb]; decide)]
  · rw [if_pos hb]

/-- a manifest's value whose lists are the reader's own -/
def ManiO (w : World) (B : Nat) (m : Mani) (u : Value) : Prop :=
  ∃ (v : Nat → Value) (l : Nat → List Dep) (S : Nat → Prop), u = .agg (cellsP [] 4 v) ∧ PartsIn 4 B w v l S ∧ l 0 = m.deps ∧ l 1 = m.dev ∧ l 2 = m.opts ∧ l 3 = m.over
theorem ManiO.zero (w : World) (B : Nat) : ManiO w B maniZ (.agg #[.slice none 0 0, .slice none 0 0, .slice none 0 0, .slice none 0 0]) :=
  ⟨_, _, _, rfl, PartsIn.nil 4 B w, rfl, rfl, rfl, rfl⟩
theorem ManiO.maniV {w : World} {B : Nat} {m : Mani} {u : Value} (h : ManiO w B m u) : ManiV w (Fresh B w) m u := by
  obtain ⟨v, l, S, rfl, ⟨h1, h2, h3⟩, e0, e1, e2, e3⟩ := h
  have g0 := (h1 0 (by decide)).slvF h2
  have g1 := (h1 1 (by decide)).slvF h2
  have g2 := (h1 2 (by decide)).slvF h2
  have g3 := (h1 3 (by decide)).slvF h2
  obtain ⟨A0, c0, q0, _, _⟩ := g0.val
  obtain ⟨A1, c1, q1, _, _⟩ := g1.val
  obtain ⟨A2, c2, q2, _, _⟩ := g2.val
  obtain ⟨A3, c3, q3, _, _⟩ := g3.val
  rw [q0, e0] at g0
  rw [q1, e1] at g1
  rw [q2, e2] at g2
  rw [q3, e3] at g3
  refine ⟨A0, _, c0, A1, _, c1, A2, _, c2, A3, _, c3, ?_, g0, g1, g2, g3⟩
  show Value.agg #[v 0, v 1, v 2, v 3] = _
  rw [q0, q1, q2, q3, e0, e1, e2, e3]
theorem ManiO.keep {w w' : World} {B : Nat} {m : Mani} {u : Value} (h : ManiO w B m u) (hb : Below w.heap.size w w') : ManiO w' B m u := by
  obtain ⟨v, l, S, h1, h2, h3⟩ := h
  exact ⟨v, l, S, h1, h2.keep hb, h3⟩
theorem ManiO.lower {w : World} {B B' : Nat} {m : Mani} {u : Value} (h : ManiO w B m u) (hB : B' ≤ B) : ManiO w B' m u := by
  obtain ⟨v, l, S, h1, h2, h3⟩ := h
  exact ⟨v, l, S, h1, h2.lower hB, h3⟩
theorem heap_set4 {W : World} {b : Nat} {x0 x1 x2 x3 : Value} {t : TypeId} (h : W.heap[b]? = some (.cells #[x0, x1, x2, x3] t (0, 0))) (a0 a1 a2 a3 : Value) :
    ((((W.setCell ⟨b, 0, none⟩ a0).setCell ⟨b, 1, none⟩ a1).setCell ⟨b, 2, none⟩ a2).setCell ⟨b, 3, none⟩ a3).heap[b]? = some (.cells #[a0, a1, a2, a3] t (0, 0)) := by
  have h0 := heap_set1 (o := 0) h a0
  rw [show (#[x0, x1, x2, x3] : Array Value).setIfInBounds 0 a0 = #[a0, x1, x2, x3] from rfl] at h0
  have h1 := heap_set1 (o := 1) h0 a1
  rw [show (#[a0, x1, x2, x3] : Array Value).setIfInBounds 1 a1 = #[a0, a1, x2, x3] from rfl] at h1
  have h2 := heap_set1 (o := 2) h1 a2
  rw [show (#[a0, a1, x2, x3] : Array Value).setIfInBounds 2 a2 = #[a0, a1, a2, x3] from rfl] at h2
  have h3 := heap_set1 (o := 3) h2 a3
  rw [show (#[a0, a1, a2, x3] : Array Value).setIfInBounds 3 a3 = #[a0, a1, a2, a3] from rfl] at h3
  exact h3
theorem below_set4 {W0 W : World} {B b : Nat} (h : Below B W0 W) (hb : B ≤ b) (a0 a1 a2 a3 : Value) :
    Below B W0 ((((W.setCell ⟨b, 0, none⟩ a0).setCell ⟨b, 1, none⟩ a1).setCell ⟨b, 2, none⟩ a2).setCell ⟨b, 3, none⟩ a3) :=
  (((h.setCell hb a0).setCell hb a1).setCell hb a2).setCell hb a3
theorem PartsIn.set4 {n B : Nat} {w : World} {v : Nat → Value} {l : Nat → List Dep} {S : Nat → Prop} (h : PartsIn n B w v l S) {b : Nat} (hb : b < B) (a0 a1 a2 a3 : Value) :
    PartsIn n B ((((w.setCell ⟨b, 0, none⟩ a0).setCell ⟨b, 1, none⟩ a1).setCell ⟨b, 2, none⟩ a2).setCell ⟨b, 3, none⟩ a3) v l S :=
  (((h.at hb (grownBy_set _ _ _ _)).at hb (grownBy_set _ _ _ _)).at hb (grownBy_set _ _ _ _)).at hb (grownBy_set _ _ _ _)

/-! ### two lists of texts -/
set_option maxHeartbeats 2000000 in
set_option maxRecDepth 100000 in
theorem strsEqual_any (A B : Option Addr) (n m c d : Nat) (xs ys : List ByteArray) (w : World) (S T : Nat → Prop) (hx : SlV rStr w S xs (.slice A n c)) (hy : SlV rStr w T ys (.slice B m d)) :
    Calls Tryz.prog 65 #[.slice A n c, .slice B m d] w fun e w' => e = .returned (.bool (eqB xs ys)) ∧ Below w.heap.size w w' := by
  have hnx := hx.n_eq
  have hny := hy.n_eq
  have hcx := hx.cap_le
  unfold maxLen at hcx
  by_cases hnm : n = m
  case neg =>
    have hb : ((n : Int) != (m : Int)) = true := by simp; omega
    have He : Hid (eqB xs ys = false) := eqB_false (by rintro rfl; omega)
    clear hnx hny hcx hx hy hnm
    generalize eqB xs ys = r at *
    go_enter Tryz.func65, Tryz.ntmps65
    go_wp2_with fail
    go_ret
    exact ⟨ret_bool He.out.symm, Below.refl _ _⟩
  have hb : ((n : Int) != (m : Int)) = false := by simp [hnm]
  have hn63 : n ≤ 9223372036854775807 := by omega
  have Hx := Lib.hid (hx.more (S' := fun b => b < w.heap.size) fun b _ h => h)
  have Hy := Lib.hid (hy.more (S' := fun b => b < w.heap.size) fun b _ h => h)
  have Hpos : Hid (xs = ys → eqB xs ys = true) := fun h => eqB_true h
  have Hneg : Hid (xs ≠ ys → eqB xs ys = false) := fun h => eqB_false h
  have Hnx := Lib.hid hnx
  have Hny := Lib.hid hny
  have Hnm := Lib.hid hnm
  clear hcx hx hy hnx hny hnm
  generalize eqB xs ys = r at *
  go_enter Tryz.func65, Tryz.ntmps65
  go_wp2_with fail
  go_loopw [13] (fun i wr => ∃ k : Nat, k ≤ n ∧ i = .int .i64 k ∧ Hid (xs.take k = ys.take k) ∧ Hid (Below w.heap.size w wr)) (fun i _ => n - (intOf i).toNat)
  case atStart => exact ⟨0, Nat.zero_le _, rfl, by simp [Hid], Below.refl _ _⟩
  case round =>
    obtain ⟨k, hk, rfl, Heq, HB⟩ := hrel
    by_cases hlt : k < n
    case neg =>
      have hr := Hpos.out (eq_of_takes Heq.out (by have := Hnx.out; omega) (by have := Hny.out; have := Hnm.out; omega))
      subst hr
      have hI : ¬ (k : Int) < (n : Int) := by omega
      clear Hpos Hneg Heq
      go_wp2_with fail
      go_ret
      exact ⟨rfl, HB.out⟩
    have hkx : k < xs.length := by have := Hnx.out; omega
    have hky : k < ys.length := by have := Hny.out; have := Hnm.out; omega
    have hkm : (k : Int) < (m : Int) := by have := Hnm.out; omega
    have hkn : (k : Int) < (n : Int) := by omega
    have hk0 : (0 : Int) ≤ (k : Int) := by omega
    have hxw := Hx.out.below HB.out (fun b h => h)
    have hyw := Hy.out.below HB.out (fun b h => h)
    obtain ⟨b1, o1, rfl, _, _⟩ := hxw.at (by omega)
    obtain ⟨b2, o2, rfl, _, _⟩ := hyw.at (by omega)
    obtain ⟨c0, _⟩ := hxw.str (List.getElem?_eq_getElem hkx)
    obtain ⟨d0, _⟩ := hyw.str (List.getElem?_eq_getElem hky)
    have Hne := Lib.hid (fun h => ne_at hkx hky h)
    have Hen := Lib.hid (fun h => take_next Heq.out hkx hky h)
    clear hxw hyw
    generalize xs[k] = x at *
    generalize ys[k] = y at *
    by_cases he : x = y
    · have hbe := beq_true he
      have Hn := Lib.hid (Hen.out he)
      clear Hne Hen he
      go_wp2_with fail
      have r_c0 := cell_regrown c0
      have r_d0 := cell_regrown d0
      go_wp2_with fail
      refine wp_region_qb (by kernel_rfl) (by kernel_rfl) ?_
      repeat (go_big_quiet_step (first | fail))
      refine wpQuiet_nil ?_
      intro wq Bq
      have HBq := Lib.hid (bot HB.out Bq)
      clear Bq r_c0 r_d0
      go_wp2_with fail
      go_roundw
      case rel => exact ⟨k + 1, by omega, by go_num, Hn, HBq⟩
      case measure => simp [intOf]; omega
    · have hbe := beq_false he
      have hr := Hneg.out (Hne.out he)
      subst hr
      clear Hne Hen he Hpos Hneg
      go_wp2_with fail
      have r_c0 := cell_regrown c0
      have r_d0 := cell_regrown d0
      go_wp2_with fail
      refine wp_region_qb (by kernel_rfl) (by kernel_rfl) ?_
      repeat (go_big_quiet_step (first | fail))
      refine wpQuiet_nil ?_
      intro wq Bq
      have HBq := Lib.hid (bot HB.out Bq)
      clear Bq r_c0 r_d0
      go_wp2_with fail
      go_ret
      exact ⟨rfl, HBq.out⟩

/-! ### the part that a line's word names -/
set_option maxHeartbeats 2000000 in
set_option maxRecDepth 100000 in
theorem parse1_any (word h : ByteArray) (p : Value) (hp : ∃ a, p = .pointer a) (b bw ow n c : Nat) (w : World) (hn : 0 < n) (h0 : w.cell? ⟨b, 0, none⟩ = some (.slice (some ⟨bw, ow, none⟩) n c)) (h1 : w.cell? ⟨bw, ow, none⟩ = some (.string h)) :
    Calls Tryz.prog 68 #[.agg #[.string word, p], .pointer (some ⟨b, 0, none⟩)] w fun e w' => e = .returned (.bool (decide (word.data.toList = h.data.toList))) ∧ Below w.heap.size w w' := by
  obtain ⟨a, rfl⟩ := hp
  have hnI : (0 : Int) < (n : Int) := by omega
  have hb0 := cell_lt h0
  have hb1 := cell_lt h1
  by_cases he : word = h
  all_goals
    first
    | have hbe := beq_true he
    | have hbe := beq_false he
    have HR : Hid (decide (word.data.toList = h.data.toList) = (word.toList == h.toList)) := by
      unfold Hid
      rw [Go.ByteArray.toList_eq, Go.ByteArray.toList_eq]
      rw [Bool.eq_iff_iff]; simp
    rw [HR.out, hbe]
    clear HR he
    go_enter Tryz.func68, Tryz.ntmps68
    go_wp2_with fail
    obtain ⟨w1, hw1⟩ : ∃ w1, w1 = w.alloc (.cells #[.string word, .pointer a] 88) := ⟨_, rfl⟩
    have hr1 : w1.heap[w.heap.size]? = some (.cells #[.string word, .pointer a] 88 (0, 0)) := by rw [hw1]; exact heap_alloc_new w _
    have hbl : Below w.heap.size w w1 := by rw [hw1]; exact bal (Below.refl _ _) _
    rw [← hw1]
    obtain ⟨⟨a0, a1⟩, _⟩ := row2 hr1
    have e0 := below_cell hbl h0 hb0
    have e1 := below_cell hbl h1 hb1
    clear hw1 hr1 h0 h1
    have r_a0 := cell_regrown a0
    have r_e0 := cell_regrown e0
    have r_e1 := cell_regrown e1
    go_wp2_with fail
    refine wp_region_qb (by kernel_rfl) (by kernel_rfl) ?_
    repeat (go_big_quiet_step (first | fail))
    refine wpQuiet_nil ?_
    intro wq Bq
    go_wp2_with fail
    go_ret
    exact ⟨rfl, bot hbl Bq⟩
theorem enters_parse1 : Enters Tryz.prog 68 := enters_of Tryz.func68 (by kernel_rfl) rfl
theorem maniOrder_at {k : Nat} (h : k < 4) : maniOrder[k]? = some (pw k) := by
  have : k = 0 ∨ k = 1 ∨ k = 2 ∨ k = 3 := by omega
  rcases this with rfl | rfl | rfl | rfl <;> rfl

set_option maxHeartbeats 2000000 in
set_option maxRecDepth 100000 in
theorem partIndex_any (M PB a : Nat) (h : ByteArray) (b bw ow n c : Nat) (w : World) (hn : 0 < n) (ha : a ≤ 3) (hP : w.heap[PB]? = some (.cells (partCells M) 88 (0, 0))) (h0 : w.cell? ⟨b, 0, none⟩ = some (.slice (some ⟨bw, ow, none⟩) n c)) (h1 : w.cell? ⟨bw, ow, none⟩ = some (.string h)) :
    Calls Tryz.prog 67 #[.slice (some ⟨PB, a * 2, none⟩) (4 - a) (4 - a), .func (.func 68) #[] #[.pointer (some ⟨b, 0, none⟩)]] w fun e w' => e = .returned (.int .i64 (idxI (maniOrder.drop a) h)) ∧ Below w.heap.size w w' := by
  obtain ⟨N, hN⟩ : ∃ N, N = 4 - a := ⟨_, rfl⟩
  obtain ⟨l, hl⟩ : ∃ l, l = maniOrder.drop a := ⟨_, rfl⟩
  have hll : l.length = N := by rw [hl, List.length_drop, hN]; rfl
  have Hat : Hid (∀ k, k < N → ∀ (hk : k < l.length), l[k] = pw (a + k) ∧ ∀ W : World, Below w.heap.size w W → W.cell? ⟨PB, a * 2 + k * 2, none⟩ = some (.string (pw (a + k))) ∧ W.cell? ⟨PB, a * 2 + k * 2 + 1, none⟩ = some (.pointer (some ⟨M, a + k, none⟩))) := fun k hk hkl => by
    have h4 : a + k < 4 := by omega
    refine ⟨?_, fun W hW => ?_⟩
    · have := maniOrder_at h4
      have h2 : (maniOrder.drop a)[k]? = some (pw (a + k)) := by rw [List.getElem?_drop]; exact this
      rw [← hl, List.getElem?_eq_getElem hkl] at h2
      exact Option.some.inj h2
    · obtain ⟨q0, q1⟩ := partCells_at (M := M) h4
      have hPW := (hW.block _ (Array.getElem?_eq_some_iff.1 hP).1).trans hP
      refine ⟨?_, ?_⟩
      · rw [show a * 2 + k * 2 = (a + k) * 2 by omega]; exact (cell_of_row _ _ _ _ _ _ hPW).trans q0
      · rw [show a * 2 + k * 2 + 1 = (a + k) * 2 + 1 by omega]; exact (cell_of_row _ _ _ _ _ _ hPW).trans q1
  have HC : Hid (∀ W word p, Below w.heap.size w W → (∃ a, p = .pointer a) → Calls Tryz.prog 68 #[.agg #[.string word, p], .pointer (some ⟨b, 0, none⟩)] W fun e w' => e = .returned (.bool (decide (word.data.toList = h.data.toList))) ∧ Below W.heap.size W w') := fun W word p hW hp =>
    parse1_any word h p hp b bw ow n c W hn (below_cell hW h0 (cell_lt h0)) (below_cell hW h1 (cell_lt h1))
  obtain ⟨R, hR⟩ : ∃ R, R = idxI l h := ⟨_, rfl⟩
  have HR0 : Hid (∀ k, idxGo l h = (idxGo (l.drop k) h).map (· + k) → ∀ q, idxGo (l.drop k) h = q → R = match q with | none => (-1 : Int) | some j => ((j + k : Nat) : Int)) := by
    intro k hk q hq
    rw [hR]
    unfold idxI
    rw [hk, hq]
    cases q <;> rfl
  rw [← hl, ← hR, ← hN]
  have Hll := Lib.hid hll
  have hN4 : N ≤ 4 := by omega
  clear hl hR hN hP h0 h1 hll
  have hent := fun args W => enters_parse1 args W
  go_enter Tryz.func67, Tryz.ntmps67
  go_wp2_with fail
  go_loopw [8] (fun i wr => ∃ k : Nat, k ≤ N ∧ i = .int .i64 k ∧ Hid (idxGo l h = (idxGo (l.drop k) h).map (· + k)) ∧ Hid (Below w.heap.size w wr)) (fun i _ => N - (intOf i).toNat)
  case atStart => exact ⟨0, Nat.zero_le _, rfl, by unfold Hid; simp, Below.refl _ _⟩
  case round =>
    obtain ⟨k, hk, rfl, Hidx, HB⟩ := hrel
    by_cases hlt : k < N
    case neg =>
      have hr := HR0.out k Hidx.out none (by rw [List.drop_eq_nil_of_le (by have := Hll.out; omega)]; rfl)
      simp only at hr
      subst hr
      have hI : ¬ (k : Int) < (N : Int) := by omega
      clear HR0 Hidx
      go_wp2_with fail
      go_ret
      exact ⟨rfl, HB.out⟩
    have hkx : k < l.length := by have := Hll.out; omega
    obtain ⟨hlk, hcs⟩ := Hat.out k hlt hkx
    obtain ⟨e0, e1⟩ := hcs wr HB.out
    have hkn : (k : Int) < (N : Int) := by omega
    have hk0 : (0 : Int) ≤ (k : Int) := by omega
    have Hhit := Lib.hid (fun e => idxGo_hit (x := h) hkx e)
    have Hmiss := Lib.hid (fun e => idxGo_miss (x := h) hkx e)
    rw [hlk] at Hhit Hmiss
    have Hcall := Lib.hid (HC.out wr (pw (a + k)) (.pointer (some ⟨M, a + k, none⟩)) HB.out ⟨_, rfl⟩)
    have Hr := Lib.hid (fun q hq => HR0.out k Hidx.out q hq)
    generalize pw (a + k) = word at *
    clear hlk hcs HR0
    by_cases he : word = h
    · have hr := Hr.out (some 0) (Hhit.out he)
      simp only [Nat.zero_add] at hr
      subst hr
      have hd : decide (word.data.toList = h.data.toList) = true := by rw [he]; simp
      rw [hd] at Hcall
      clear Hr Hhit Hmiss Hidx hd he
      go_wp2_with fail
      refine Hcall.out.mono ?_
      rintro e w1 ⟨rfl, hb1⟩
      go_wp2_with fail
      go_ret
      exact ⟨rfl, bot HB.out hb1⟩
    · have hnx := Hmiss.out he
      have Hnext : Hid (idxGo l h = (idxGo (l.drop (k + 1)) h).map (· + (k + 1))) := by
        unfold Hid
        rw [Hidx.out, hnx, Option.map_map]
        congr 1
        funext j
        simp; omega
      have hd : decide (word.data.toList = h.data.toList) = false := decide_eq_false (fun e => he (data_inj e))
      rw [hd] at Hcall
      clear Hr Hhit Hmiss Hidx hd he hnx
      go_wp2_with fail
      refine Hcall.out.mono ?_
      rintro e w1 ⟨rfl, hb1⟩
      have HB2 := Lib.hid (bot HB.out hb1)
      clear hb1
      go_wp2_with fail
      go_roundw
      case rel => exact ⟨k + 1, by omega, by go_num, Hnext, HB2⟩
      case measure => simp [intOf]; omega
end Go.Proofs.YtldjldkejjeamaaGreatDoor
set_option autoImplicit false
set_option relaxedAutoImplicit false
set_option linter.unusedVariables false
set_option linter.unusedSimpArgs false
namespace Go.Proofs.YtldjldkejjeamaaGreatDoor
open Go.Rows Go.RowKit Go.Shelf Go.Sort

set_option maxHeartbeats 8000000 in
set_option maxRecDepth 100000 in
theorem maniParseO_any (t : ByteArray) (w : World) (hv : Vok w) (ht : t.size ≤ 4611686018427387904) :
    Calls Tryz.prog 34 #[.string t] w fun e w' => ∃ u, e = .returned (.tuple #[u, .int .i64 (maniQ t).2]) ∧ ManiO w' w.heap.size (maniQ t).1 u ∧ Below w.heap.size w w' := by
  obtain ⟨L, en, hQ⟩ : ∃ L en, scanQ 4096 t = (L, en) := ⟨_, _, rfl⟩
  have hbd := scan_bounds (most := 4096) (t := t)
  rw [hQ] at hbd
  obtain ⟨hL1, hL2⟩ := hbd
  simp only at hL1 hL2
  have Hsc : Hid (∀ W, Calls Tryz.prog 47 #[.string t, .int .i64 4096] W fun e w' => ∃ v, (∃ k : Int, e = .returned (.tuple #[v, .int .i64 en, .int .i64 k])) ∧ SlV (rSlice rStr) w' (fun b => W.heap.size ≤ b) L v ∧ Below W.heap.size W w') := fun W => by
    have := scanLines_any t 4096 W (by decide) ht
    rw [hQ] at this
    exact this
  have K0 : Hid (en ≠ 0 → maniQ t = (maniZ, en)) := fun h => maniQ_bad hQ h
  have K1 : Hid (en = 0 → (∀ r, L ≠ [projectW] :: r) → maniQ t = (maniZ, 22)) := fun h h2 => maniQ_form (by rw [← h]; exact hQ) h2
  have K2 := Lib.hid (fun (h : en = 0) rest (hl : L = [projectW] :: rest) => maniQ_line (t := t) (rest := rest) (by rw [← h, ← hl]; exact hQ))
  have Hv := Lib.hid hv
  have HL1 := Lib.hid hL1
  have HL2 := Lib.hid hL2
  clear hv hL1 hL2 hQ
  generalize maniQ t = R at *
  go_enter Tryz.func34, Tryz.ntmps34
  go_wp2_with fail
  obtain ⟨w0, hw0⟩ : ∃ w0, w0 = w.alloc (.cells #[.slice none 0 0, .slice none 0 0, .slice none 0 0, .slice none 0 0] 47) := ⟨_, rfl⟩
  have hr0 : w0.heap[w.heap.size]? = some (.cells #[.slice none 0 0, .slice none 0 0, .slice none 0 0, .slice none 0 0] 47 (0, 0)) := by rw [hw0]; exact heap_alloc_new w _
  have HB0 : Hid (Below w.heap.size w w0) := by unfold Hid; rw [hw0]; exact bal (Below.refl _ _) _
  have hz0 : w.heap.size < w0.heap.size := (Array.getElem?_eq_some_iff.1 hr0).1
  rw [← hw0]
  clear hw0
  have Hr0 := Lib.hid hr0
  have Hz0 := Lib.hid hz0
  clear hr0 hz0
  refine (Hsc.out w0).mono ?_
  rintro e w1 ⟨vL, ⟨kk, rfl⟩, hL, hb1⟩
  have Hr1 := Lib.hid ((hb1.block _ Hz0.out).trans Hr0.out)
  have HB1 := Lib.hid (bot HB0.out hb1)
  have hz1 : w.heap.size < w1.heap.size := Nat.lt_of_lt_of_le Hz0.out hb1.size
  have hL' := hL.more (S' := fun b => b < w1.heap.size) fun b _ h => h
  obtain ⟨AL, cL, rfl, hcl, hcm⟩ := hL'.val
  obtain ⟨n, hn⟩ : ∃ n, n = L.length := ⟨_, rfl⟩
  have hcl2 : n ≤ cL := by rw [hn]; exact hcl
  unfold maxLen at hcm
  have hn7 : n ≤ 4097 := by rw [hn]; exact HL1.out
  rw [← hn] at hL' ⊢
  clear hL hb1 HB0 Hr0 Hz0 Hsc hcl
  have HL := Lib.hid hL'
  have Hn := Lib.hid hn
  clear hL' hn
  by_cases he : en = 0
  case neg =>
    have hbe : (en != 0) = true := by simpa using he
    have hq := K0.out he
    subst hq
    obtain ⟨⟨a0, a1, a2, a3⟩, f0, f1, f2, f3⟩ := row4 Hr1.out
    clear he K0 K1 K2
    go_wp2_with fail
    refine ret_cells rfl rfl rfl rfl (heap_set4 Hr1.out _ _ _ _) Tryz.underlying47 rfl (by kernel_rfl) ⟨_, rfl, ManiO.zero _ _, below_set4 HB1.out (Nat.le_refl _) _ _ _ _⟩
  have K1' := Lib.hid (K1.out he)
  have K2' := Lib.hid (K2.out he)
  clear K0 K1 K2
  subst he
  cases L with
  | nil =>
    have hq := K1'.out (by intro r e; cases e)
    subst hq
    have hn0 : n = 0 := Hn.out
    subst hn0
    obtain ⟨⟨a0, a1, a2, a3⟩, f0, f1, f2, f3⟩ := row4 Hr1.out
    clear K1' K2'
    go_wp2_with fail
    refine ret_cells rfl rfl rfl rfl (heap_set4 Hr1.out _ _ _ _) Tryz.underlying47 rfl (by kernel_rfl) ⟨_, rfl, ManiO.zero _ _, below_set4 HB1.out (Nat.le_refl _) _ _ _ _⟩
  | cons ws0 rest =>
  have hnr : n = rest.length + 1 := Hn.out
  obtain ⟨b0, o0, rfl, _, hb0⟩ := HL.out.at (by simp)
  obtain ⟨A0, cc0, c0, hs0⟩ := HL.out.row (i := 0) (x := ws0) rfl
  rw [Nat.add_zero] at c0
  obtain ⟨m, hm⟩ : ∃ m, m = ws0.length := ⟨_, rfl⟩
  rw [← hm] at c0 hs0
  have Hs0 := Lib.hid hs0
  have hn0 : ((n : Int) == 0) = false := by rw [beq_eq_false_iff_ne]; omega
  have hn1 : 0 < n := by omega
  have hnI : (0 : Int) < (n : Int) := by omega
  have HEq : Hid (∀ W A2 c2 T, Below w1.heap.size w1 W → SlV rStr W T [projectW] (.slice A2 1 c2) → Calls Tryz.prog 65 #[.slice A0 m cc0, .slice A2 1 c2] W fun e w' => e = .returned (.bool (eqB ws0 [projectW])) ∧ Below W.heap.size W w') := fun W A2 c2 T hW hT =>
    strsEqual_any A0 A2 m 1 cc0 c2 ws0 [projectW] W _ T (Hs0.out.belowSize hW) hT
  have HLr := Lib.hid (HL.out.cut 1 hn1)
  rw [List.drop_one, List.tail_cons] at HLr
  have Hb0 := Lib.hid hb0
  have Hnr := Lib.hid hnr
  clear hs0 hm HL Hn hb0 hnr Hs0
  go_wp2_with fail
  obtain ⟨w2, hw2⟩ : ∃ w2, w2 = w1.alloc (.cells #[.string ⟨#[112, 114, 111, 106, 101, 99, 116]⟩] 9) := ⟨_, rfl⟩
  have hrp : w2.heap[w1.heap.size]? = some (.cells #[.string ⟨#[112, 114, 111, 106, 101, 99, 116]⟩] 9 (0, 0)) := by rw [hw2]; exact heap_alloc_new w1 _
  have HB2 : Hid (Below w1.heap.size w1 w2) := by unfold Hid; rw [hw2]; exact bal (Below.refl _ _) _
  have Hso : Hid (SlV rStr w2 (fun _ => True) [projectW] (.slice (some ⟨w1.heap.size, 0, none⟩) 1 1)) := SlV.of_block hrp (elemsS (l := [projectW]) (by decide)) trivial rfl (by decide) (by decide)
  rw [← hw2]
  clear hw2 hrp
  refine (HEq.out w2 _ _ _ HB2.out Hso.out).mono ?_
  rintro e w3 ⟨rfl, hb3⟩
  have HB3 := Lib.hid (bot HB2.out hb3)
  have Hr3 := Lib.hid ((HB3.out.block _ hz1).trans Hr1.out)
  clear hb3 HB2 HEq Hso
  by_cases hpj : ws0 = [projectW]
  case neg =>
    have hq := K1'.out (by intro r e; cases e; exact hpj rfl)
    subst hq
    rw [eqB_false hpj]
    obtain ⟨⟨a0, a1, a2, a3⟩, f0, f1, f2, f3⟩ := row4 Hr3.out
    clear K1' K2' hpj
    go_wp2_with fail
    refine ret_cells rfl rfl rfl rfl (heap_set4 Hr3.out _ _ _ _) Tryz.underlying47 rfl (by kernel_rfl) ⟨_, rfl, ManiO.zero _ _, below_set4 (bot HB1.out HB3.out) (Nat.le_refl _) _ _ _ _⟩
  subst hpj
  rw [eqB_true rfl]
  obtain ⟨K2e, K2l⟩ := K2'.out rest rfl
  have K2e' := Lib.hid K2e
  have K2l' := Lib.hid K2l
  clear K1' K2' K2e K2l c0
  go_wp2_with fail
  obtain ⟨w4, hw4⟩ : ∃ w4, w4 = w3.alloc (.cells #[.slice none 0 0, .slice none 0 0, .slice none 0 0, .slice none 0 0] 47) := ⟨_, rfl⟩
  have HP4 : Hid (PartsAt w3.heap.size [] 47 4 w4 (fun _ => .slice none 0 0)) := by unfold Hid; rw [hw4]; exact heap_alloc_new w3 _
  have HB34 : Hid (Below w3.heap.size w3 w4) := by unfold Hid; rw [hw4]; exact bal (Below.refl _ _) _
  have hz4 : w3.heap.size < w4.heap.size := HP4.out.lt
  rw [← hw4]
  clear hw4
  refine (parts_any w3.heap.size w4).mono ?_
  rintro e w5 ⟨rfl, hb5, hp5⟩
  obtain ⟨M, hM⟩ : ∃ M, M = w3.heap.size := ⟨_, rfl⟩
  obtain ⟨PB, hPB⟩ : ∃ PB, PB = w4.heap.size := ⟨_, rfl⟩
  have HP5 := Lib.hid (HP4.out.keep hb5)
  have HB35 := Lib.hid (bot HB34.out hb5)
  have HB5 := Lib.hid (bot HB3.out HB35.out)
  have hz13 : w1.heap.size ≤ w3.heap.size := HB3.out.size
  have Hr5 := Lib.hid ((HB5.out.block _ hz1).trans Hr1.out)
  have hPl : w4.heap.size < w5.heap.size := (Array.getElem?_eq_some_iff.1 hp5).1
  rw [← hM] at HP5 hp5 hz4 hz13 ⊢
  rw [← hPB] at hp5 hz4 hPl ⊢
  have Hp5 := Lib.hid hp5
  have hM5 : M < w5.heap.size := by omega
  have hne1 : PB ≠ M := by omega
  clear hb5 hp5 HP4 HB34 HB35 HB3 Hr3 Hr1 hM hPB
  have hsl : ∀ W, (Instr.slice 58 (.slice (some ⟨b0, o0, none⟩) n cL) (some (.int .i64 1)) none none).run Tryz.prog W = .ok (.slice (if cL = 1 then some (⟨b0, o0, none⟩ : Addr) else Option.map (fun x : Addr => x.add (1 * 1)) (some (⟨b0, o0, none⟩ : Addr))) (n - 1) (cL - 1)) W := fun W =>
    run_from (P := Tryz.prog) (t := 58) (e := 61) (z := 1) Tryz.underlying58 (by kernel_rfl) (fun _ => by kernel_rfl) (some ⟨b0, o0, none⟩) n cL 1 hn1 W
  obtain ⟨X, hX⟩ : ∃ X, X = (if cL = 1 then some (⟨b0, o0, none⟩ : Addr) else Option.map (fun x : Addr => x.add (1 * 1)) (some (⟨b0, o0, none⟩ : Addr))) := ⟨_, rfl⟩
  have HLq : Hid (SlV (rSlice rStr) w1 (fun b => b < w1.heap.size) rest (.slice X (n - 1) (cL - 1))) := by unfold Hid; rw [hX]; exact HLr.out
  rw [← hX] at hsl
  obtain ⟨ln, hln⟩ : ∃ ln, ln = n - 1 := ⟨_, rfl⟩
  rw [← hln] at hsl HLq
  have Hln : Hid (rest.length = ln) := by have := Hnr.out; unfold Hid; omega
  have hln7 : ln ≤ 4097 := by omega
  clear hX hln HLr
  have hsl2 : ∀ a q : Nat, a + q ≤ 3 → ∀ W, (Instr.slice 83 (.slice (some ⟨PB, a * 2, none⟩) (4 - a) (4 - a)) (some (.int .i64 (q : Int))) none none).run Tryz.prog W = .ok (.slice (some ⟨PB, (a + q) * 2, none⟩) (4 - (a + q)) (4 - (a + q))) W := fun a q ha W => by
    have := run_from (P := Tryz.prog) (t := 83) (e := 88) (z := 2) Tryz.underlying83 (by kernel_rfl) (fun _ => by kernel_rfl) (some ⟨PB, a * 2, none⟩) (4 - a) (4 - a) q (by omega) W
    rw [if_neg (by omega), Option.map_some, add_lit'] at this
    rw [this, show a * 2 + q * 2 = (a + q) * 2 by omega, show 4 - a - q = 4 - (a + q) by omega]
  have Hsl2 := Lib.hid hsl2
  clear hsl2
  go_wp2_with fail
  go_loopw [8, 41] (fun x i wr => ∃ (k aN : Nat) (v : Nat → Value) (l : Nat → List Dep) (S : Nat → Prop), k ≤ ln ∧ aN ≤ 3 ∧ x = .slice (some ⟨PB, aN * 2, none⟩) (4 - aN) (4 - aN) ∧ i = .int .i64 k ∧ Hid (listsE maniOrder rest (0, rm 4 fun _ => []) = listsE maniOrder (rest.drop k) (aN, rm 4 l)) ∧ Hid (∀ j, j < 4 → (l j).length ≤ k) ∧ Hid (PartsIn 4 w5.heap.size wr v l S) ∧ Hid (PartsAt M [] 47 4 wr v) ∧ Hid (Turn (fun j => j = M) w5 wr)) (fun _ i _ => ln - (intOf i).toNat)
  case atStart => exact ⟨0, 0, _, _, _, Nat.zero_le _, by decide, rfl, rfl, rfl, fun _ _ => Nat.le_refl _, PartsIn.nil 4 _ _, HP5, Turn.refl _ _⟩
  case round =>
    clear HP5
    obtain ⟨k, aN, v, l, S, hk, ha3, rfl, rfl, Hm, Hlen, HPi, HPa, HT⟩ := hrel
    have HBr : Hid (Below w1.heap.size w1 wr) := HB5.out.trans (HT.out.below (by omega) (fun q hq => by rw [hq]; omega))
    have hzr : w5.heap.size ≤ wr.heap.size := HT.out.size
    have hk0 : (0 : Int) ≤ (k : Int) := by omega
    by_cases hlt : k < ln
    case neg =>
      obtain rfl : k = ln := by omega
      have hI : ¬ (k : Int) < (k : Int) := by omega
      have hm := Hm.out
      rw [List.drop_eq_nil_of_le (by have := Hln.out; omega), listsE] at hm
      obtain ⟨Kf, Kt⟩ := K2l'.out l hm
      have Kf' := Lib.hid Kf
      have Kt' := Lib.hid Kt
      have HO : Hid (ManiO wr w5.heap.size ⟨l 0, l 1, l 2, l 3⟩ (.agg #[v 0, v 1, v 2, v 3])) := ⟨v, l, S, rfl, HPi.out, rfl, rfl, rfl, rfl⟩
      have HM := Lib.hid (maniMay_any _ _ wr _ (tab_below Hv.out.tab (bot HB1.out HBr.out)) HO.out.maniV)
      have p0 : wr.cell? ⟨M, 0, none⟩ = some (v 0) := cell_of_row _ _ 0 _ _ _ HPa.out
      have p1 : wr.cell? ⟨M, 1, none⟩ = some (v 1) := cell_of_row _ _ 1 _ _ _ HPa.out
      have p2 : wr.cell? ⟨M, 2, none⟩ = some (v 2) := cell_of_row _ _ 2 _ _ _ HPa.out
      have p3 : wr.cell? ⟨M, 3, none⟩ = some (v 3) := cell_of_row _ _ 3 _ _ _ HPa.out
      obtain ⟨E0, e0, hv0, _, _⟩ := (HPi.out.1 0 (by decide)).slv.val
      obtain ⟨E1, e1, hv1, _, _⟩ := (HPi.out.1 1 (by decide)).slv.val
      obtain ⟨E2, e2, hv2, _, _⟩ := (HPi.out.1 2 (by decide)).slv.val
      obtain ⟨E3, e3, hv3, _, _⟩ := (HPi.out.1 3 (by decide)).slv.val
      have Hve : Hid (Value.agg (cellsP [] 4 v) = .agg #[.slice E0 (l 0).length e0, .slice E1 (l 1).length e1, .slice E2 (l 2).length e2, .slice E3 (l 3).length e3]) := by
        unfold Hid
        rw [show cellsP [] 4 v = #[v 0, v 1, v 2, v 3] from rfl, hv0, hv1, hv2, hv3]
      rw [hv0] at p0 HM
      rw [hv1] at p1 HM
      rw [hv2] at p2 HM
      rw [hv3] at p3 HM
      clear hv0 hv1 hv2 hv3
      generalize (l 0).length = m0 at *
      generalize (l 1).length = m1 at *
      generalize (l 2).length = m2 at *
      generalize (l 3).length = m3 at *
      have hr9 := HT.out.at Hr5.out (by omega)
      have Hr9 := Lib.hid hr9
      clear hm Kf Kt K2l' K2e' Hm HLq HO hr9 Hsl2 hsl
      generalize maniB ⟨l 0, l 1, l 2, l 3⟩ = okB at *
      go_wp2_with fail
      refine HM.out.mono ?_
      rintro e w9 ⟨rfl, hb9⟩
      have HB9 := Lib.hid (bot (bot HB1.out HBr.out) hb9)
      have hr9 := (hb9.block _ (by omega)).trans Hr9.out
      obtain ⟨⟨a0, a1, a2, a3⟩, f0, f1, f2, f3⟩ := row4 hr9
      have Hr99 := Lib.hid hr9
      have hbP : M < wr.heap.size := by omega
      have p0 := below_cell hb9 p0 hbP
      have p1 := below_cell hb9 p1 hbP
      have p2 := below_cell hb9 p2 hbP
      have p3 := below_cell hb9 p3 hbP
      have HPi9 := Lib.hid (HPi.out.keep hb9)
      clear hb9 hr9 Hr9 HM HPa HPi HT HBr
      cases okB with
      | false =>
        have hq := Kf'.out (by first | rfl | trivial)
        subst hq
        clear Kf' Kt'
        go_wp2_with fail
        refine ret_cells rfl rfl rfl rfl (heap_set4 Hr99.out _ _ _ _) Tryz.underlying47 rfl (by kernel_rfl) ⟨_, rfl, ManiO.zero _ _, below_set4 HB9.out (Nat.le_refl _) _ _ _ _⟩
      | true =>
        have hq := Kt'.out (by first | rfl | trivial)
        subst hq
        clear Kf' Kt'
        go_wp2_with fail
        refine ret_cells rfl rfl rfl rfl (heap_set4 Hr99.out _ _ _ _) Tryz.underlying47 rfl (by kernel_rfl) ⟨_, rfl, ?_, below_set4 HB9.out (Nat.le_refl _) _ _ _ _⟩
        exact ManiO.lower ⟨v, l, S, Hve.out.symm, HPi9.out.set4 (by omega) _ _ _ _, rfl, rfl, rfl, rfl⟩ (by omega)
    have hkI : (k : Int) < (ln : Int) := by omega
    have hkx : k < rest.length := by have := Hln.out; omega
    have HLw := Lib.hid (HLq.out.below HBr.out (fun b hb => hb))
    obtain ⟨bx, ox, rfl, _, hbx⟩ := HLw.out.at (by omega)
    obtain ⟨Aw, cw, cx, hsw⟩ := HLw.out.row (i := k) (List.getElem?_eq_getElem hkx)
    obtain ⟨hne, hwl, hwj⟩ := HL2.out rest[k] (by simp [List.getElem_mem])
    have Hat := Lib.hid (fun st => lists_at (order := maniOrder) (st := st) (List.getElem?_eq_getElem hkx))
    generalize rest[k] = ws at *
    cases ws with
    | nil => exact absurd rfl hne
    | cons h tl =>
    obtain ⟨nw, hnw⟩ : ∃ nw, nw = (h :: tl).length := ⟨_, rfl⟩
    rw [← hnw] at cx hsw
    have hnw0 : nw = tl.length + 1 := hnw
    have Hnw := Lib.hid hnw0
    have hsw' := hsw.more (S' := fun b => b < w1.heap.size) fun b hb _ => hb
    obtain ⟨bw, ow, rfl, hbw1, hbw⟩ := hsw'.at (by simp)
    obtain ⟨ch, hhz⟩ := hsw.str (i := 0) (x := h) rfl
    rw [Nat.add_zero] at ch
    have Hsw := Lib.hid hsw
    have Hne := Lib.hid hne
    have Hwj := Lib.hid hwj
    have Hwl := Lib.hid hwl
    have ha0 : (0 : Int) ≤ (aN : Int) := by omega
    have hcwn := hsw.cap_le
    have htl : 0 < nw := by omega
    clear hne hwj hwl hsw hsw' hbx hhz HLw hnw hnw0
    go_upto_region 11 with (fail)
    obtain ⟨w6, hw6⟩ : ∃ w6, w6 = wr.alloc (.cells #[.slice (some ⟨bw, ow, none⟩) nw cw] 61) := ⟨_, rfl⟩
    have hr6 : w6.heap[wr.heap.size]? = some (.cells #[.slice (some ⟨bw, ow, none⟩) nw cw] 61 (0, 0)) := by rw [hw6]; exact heap_alloc_new wr _
    have hb6 : Below wr.heap.size wr w6 := by rw [hw6]; exact bal (Below.refl _ _) _
    rw [← hw6]
    obtain ⟨bq, hbq⟩ : ∃ bq, bq = wr.heap.size := ⟨_, rfl⟩
    have hbq6 : wr.heap.size < w6.heap.size := (Array.getElem?_eq_some_iff.1 hr6).1
    have g6 : w6.cell? ⟨wr.heap.size, 0, none⟩ = some (.slice (some ⟨bw, ow, none⟩) nw cw) := cell_of_row _ _ 0 _ _ _ hr6
    have ch6 := below_cell hb6 ch hbw
    rw [← hbq] at g6 hbq6 ⊢
    have Hbq := Lib.hid hbq
    clear hbq
    have HFi := Lib.hid (partIndex_any M PB aN h bq bw ow nw cw w6 htl ha3 ((hb6.block _ (by omega)).trans (HT.out.at Hp5.out hne1)) g6 ch6)
    have Hb6 := Lib.hid hb6
    clear hw6 hr6 hb6 cx ch
    cases hI : idxGo (maniOrder.drop aN) h with
    | none =>
      have hq := K2e'.out 22 (by rw [Hm.out, Hat.out]; exact lists_none hI)
      subst hq
      rw [idxI_none hI] at HFi
      clear hI K2e' K2l' Hm Hat
      go_wp2_with fail
      refine HFi.out.mono ?_
      rintro e w7 ⟨rfl, hb7⟩
      have Bo := bot Hb6.out hb7
      have hra := (Bo.block _ (by omega)).trans (HT.out.at Hr5.out (by omega))
      obtain ⟨⟨a0, a1, a2, a3⟩, f0, f1, f2, f3⟩ := row4 hra
      have Hra := Lib.hid hra
      have HBa := Lib.hid (bot (bot HB1.out HBr.out) Bo)
      clear hra Bo hb7 g6 ch6 HFi
      go_wp2_with fail
      refine ret_cells rfl rfl rfl rfl (heap_set4 Hra.out _ _ _ _) Tryz.underlying47 rfl (by kernel_rfl) ⟨_, rfl, ManiO.zero _ _, below_set4 HBa.out (Nat.le_refl _) _ _ _ _⟩
    | some q =>
    rw [idxI_some hI] at HFi
    have hq3 : aN + q < 4 := by
      have h1 := idxGo_lt hI
      rw [List.length_drop] at h1
      have h3 : maniOrder.length = 4 := rfl
      omega
    have Hok := Lib.hid (fun d (hd : depE (lastN (l (aN + q))) (h :: tl) = .ok d) => (Hm.out.trans (Hat.out _)).trans (lists_ok (n := 4) (l := l) (ws := rest.drop (k + 1)) (w := h :: tl) hI hq3 hd))
    have Herr := Lib.hid (fun e (hd : depE (lastN (l (aN + q))) (h :: tl) = .error e) => (Hm.out.trans (Hat.out _)).trans (lists_err (n := 4) (l := l) (ws := rest.drop (k + 1)) (w := h :: tl) hI hq3 hd))
    have hs2 := Hsl2.out aN q (by omega)
    obtain ⟨j, hj⟩ : ∃ j, j = aN + q := ⟨_, rfl⟩
    rw [← hj] at hq3 Hok Herr hs2
    have hqn : ¬ (q : Int) < 0 := by omega
    have hq0 : (0 : Int) ≤ (q : Int) := by omega
    have hj4 : (0 : Int) < ((4 - j : Nat) : Int) := by omega
    have hj41 : 0 < 4 - j := by omega
    clear hI Hm Hat hj
    go_wp2_with fail
    refine HFi.out.mono ?_
    rintro e w7 ⟨rfl, hb7⟩
    have Hb7 := Lib.hid (bot Hb6.out hb7)
    have g7 := below_cell hb7 g6 hbq6
    have ch7 := below_cell hb7 ch6 (cell_lt ch6)
    have hbq7 := Nat.lt_of_lt_of_le hbq6 hb7.size
    clear hb7 g6 ch6 HFi Hb6 hbq6
    have HT7 := Lib.hid (HT.out.trans (Turn.of_below Hb7.out))
    have HB7 := Lib.hid (bot HBr.out Hb7.out)
    by_cases hsh : nw < 3
    · have hq := K2e'.out 22 (Herr.out 22 (depE_short (by have := Hnw.out; simp; omega)))
      subst hq
      have hshI : (nw : Int) < 3 := by omega
      have hra := HT7.out.at Hr5.out (by omega)
      obtain ⟨⟨a0, a1, a2, a3⟩, f0, f1, f2, f3⟩ := row4 hra
      have Hra := Lib.hid hra
      have HBa := Lib.hid (bot HB1.out HB7.out)
      clear hra Hok Herr K2e' K2l'
      go_wp2_with fail
      refine ret_cells rfl rfl rfl rfl (heap_set4 Hra.out _ _ _ _) Tryz.underlying47 rfl (by kernel_rfl) ⟨_, rfl, ManiO.zero _ _, below_set4 HBa.out (Nat.le_refl _) _ _ _ _⟩
    obtain ⟨nm, r, rest2, rfl⟩ : ∃ nm r rest2, tl = nm :: r :: rest2 := by
      have := Hnw.out
      match tl, this with
      | [], h => simp at h; omega
      | [_], h => simp at h; omega
      | nm :: r :: rest2, _ => exact ⟨nm, r, rest2, rfl⟩
    have hnwl : nw = rest2.length + 3 := Hnw.out
    have hsw7 := Hsw.out.belowSize Hb7.out
    obtain ⟨e1, hnz⟩ := hsw7.str (i := 1) (x := nm) rfl
    have hjc : ∀ (i : Nat) x, (r :: rest2)[i]? = some x → w7.cell? ⟨bw, (ow + 2) + i, none⟩ = some (.string x) := fun i x hx' => by
      have := (hsw7.str (i := i + 2) (x := x) (by show (r :: rest2)[i]? = _; exact hx')).1
      rw [show ow + 2 + i = ow + (i + 2) from by omega]
      exact this
    have hbw7 : bw < w7.heap.size := cell_lt ch7
    have hjz : (joinS (r :: rest2)).size ≤ 4096 := Nat.le_trans (Nat.le_trans (joinS_tail nm _) (joinS_tail h _)) Hwj.out
    have hrl : (r :: rest2).length = nw - 2 := by rw [hnwl]; simp
    have hwl9 := Hwl.out
    have hnw9 : nw ≤ 4097 := by rw [hnwl]; simp at hwl9; omega
    have hcw9 := hcwn.1
    have hcw8 : nw ≤ cw := by simp only [List.length_cons] at hcw9; omega
    have HJ : Hid (∀ W, Below w7.heap.size w7 W → Calls Tryz.prog 70 #[.slice (some ⟨bw, ow + 2, none⟩) (nw - 2) (cw - 2), .string ⟨#[32]⟩] W fun e w' => e = .returned (.string (joinS (r :: rest2))) ∧ Below W.heap.size W w') := fun W hW => by
      have := Tryz.strings_Join bw (ow + 2) (cw - 2) (r :: rest2) ⟨#[32]⟩ W (fun i x hx' => below_cell hW (hjc i x hx') hbw7) (Nat.lt_of_lt_of_le hbw7 hW.size) (by rw [hrl]; omega) (by rw [hrl]; omega) (by
        have h1 := hjz
        rw [size_data] at h1
        exact Nat.le_trans h1 (by decide))
      rw [hrl] at this
      exact this
    obtain ⟨pl, pe, hpq⟩ : ∃ pl pe, parseQ (joinS (r :: rest2)) = (pl, pe) := ⟨_, _, rfl⟩
    have HPs : Hid (∀ W, Below w7.heap.size w7 W → Calls Tryz.prog 69 #[.string (joinS (r :: rest2))] W fun e w' => ∃ v, e = .returned (.tuple #[v, .int .i64 pe]) ∧ Own rSpn w' W.heap.size 40 v pl (fun _ => False) ∧ Below W.heap.size W w') := fun W hW => by
      have := spanParseO_any (joinS (r :: rest2)) W (Hv.out.below (bot HB1.out (bot HB7.out hW))) (by omega)
      rw [hpq] at this
      exact this
    have HN : Hid (∀ W, Calls Tryz.prog 36 #[.string nm] W fun e w' => e = .returned (.bool (nameB nm)) ∧ Below W.heap.size W w') := fun W => scanName_any nm hnz W
    have HPia := Lib.hid (HPi.out.keep Hb7.out)
    have HPaa := Lib.hid (HPa.out.keep Hb7.out)
    have hva := (HPia.out.1 j hq3).slv
    obtain ⟨Ad, cd, hvj, hcd1, hcd2⟩ := hva.val
    rw [hvj] at hva
    have hp4 : w7.cell? ⟨M, j, none⟩ = some (v j) := by have := HPaa.out.cell hq3; simpa using this
    rw [hvj] at hp4
    have hpt := (cell_of_row _ _ (j * 2 + 1) _ _ _ (HT7.out.at Hp5.out hne1)).trans (partCells_at (M := M) hq3).2
    have hlj := Hlen.out j hq3
    obtain ⟨nd, hnd⟩ : ∃ nd, nd = (l j).length := ⟨_, rfl⟩
    rw [← hnd] at hvj hp4 hva hlj hcd1
    have Hnd := Lib.hid hnd
    have Hvj := Lib.hid hvj
    have Hbad : Hid ((nameB nm && behind (lastN (l j)) nm) = false → R = (maniZ, 23)) := fun hh => K2e'.out 23 (Herr.out 23 (depE_bad hh))
    have Hno : Hid ((nameB nm && behind (lastN (l j)) nm) = true → (pe ≠ 0 ∨ pl = []) → R = (maniZ, 21)) := fun hh h2 => K2e'.out 21 (Herr.out 21 (depE_no hh (by rw [hpq]; exact h2)))
    have Hgo : Hid ((nameB nm && behind (lastN (l j)) nm) = true → pe = 0 → pl ≠ [] → listsE maniOrder rest (0, rm 4 fun _ => []) = listsE maniOrder (rest.drop (k + 1)) (j, rm 4 fun i => if i = j then l j ++ [⟨nm, pl⟩] else l i)) := fun hh h2 h3 => by
      have := depE_ok (prev := lastN (l j)) (a := h) (nm := nm) (r := r) (rest := rest2) hh (by rw [hpq]; exact h2) (by rw [hpq]; exact h3)
      rw [hpq] at this
      exact Hok.out _ this
    have hcase : (nameB nm = false ∧ R = (maniZ, 23)) ∨ (nameB nm = true ∧ nd = 0 ∧ behind (lastN (l j)) nm = true) ∨
        (nameB nm = true ∧ ∃ q : Nat, ∃ bd od pn, nd = q + 1 ∧ Ad = some ⟨bd, od, none⟩ ∧ bd < w7.heap.size ∧ w7.cell? ⟨bd, od + q * 2, none⟩ = some (.string pn) ∧ behind (lastN (l j)) nm = Op.bytesLess pn.toList nm.toList) := by
      cases h1 : nameB nm
      · exact .inl ⟨rfl, Hbad.out (by rw [h1]; rfl)⟩
      · by_cases h2 : nd = 0
        · refine .inr (.inl ⟨rfl, h2, ?_⟩)
          rw [List.eq_nil_of_length_eq_zero (by omega : (l j).length = 0)]; rfl
        · refine .inr (.inr ⟨rfl, nd - 1, ?_⟩)
          have hql : nd - 1 < (l j).length := by omega
          obtain ⟨b', o', cs', hA', _, hbl', ⟨s1, rfl, hnm', _⟩, hcell'⟩ := hva.elem (i := nd - 1) (List.getElem?_eq_getElem hql)
          have e0 := hcell' 0 _ rfl
          simp only [rDep, Nat.add_zero] at e0
          exact ⟨b', o', _, by omega, hA', hbl', e0, by rw [lastN_at (k := nd - 1) (by omega)]; rfl⟩
    have hsl3 : ∀ W, (Instr.slice 61 (.slice (some ⟨bw, ow, none⟩) nw cw) (some (.int .i64 2)) none none).run Tryz.prog W = .ok (.slice (some ⟨bw, ow + 2, none⟩) (nw - 2) (cw - 2)) W := fun W => by
      have := run_from (P := Tryz.prog) (t := 61) (e := 9) (z := 1) Tryz.underlying61 (by kernel_rfl) (fun _ => by kernel_rfl) (some ⟨bw, ow, none⟩) nw cw 2 (by omega) W
      rw [if_neg (by omega), Option.map_some, add_lit'] at this
      exact this
    have hshI : ¬ (nw : Int) < 3 := by omega
    have hnw1 : (1 : Int) < (nw : Int) := by omega
    unfold maxLen at hcd2
    have hnd29 : nd ≤ 9223372036854775807 := by omega
    have hnm16 : Hid (nameB nm = true → nm.size ≤ maxLen) := fun _ => hnz
    clear hva hjc hrl hjz hwl9 hcw9 hnwl hnd hvj hpq hsw7 Herr Hok K2l' K2e' hcwn hsh
    generalize joinS (r :: rest2) = JS at *
    rcases hcase with ⟨h1, hd⟩ | ⟨h1, rfl, hbh⟩ | ⟨h1, q', bd, od, pn, rfl, rfl, hbd, hpc, hbh⟩
    · subst hd
      rw [h1] at HN
      have HNq := Lib.hid (qcall (w := w7) (fun W _ => HN.out W))
      clear HN h1 HJ HPs Hbad Hno Hgo
      go_wp2_with fail
      have r_g7 := cell_regrown g7
      have r_e1 := cell_regrown e1
      have r_hp4 := cell_regrown hp4
      go_wp2_with fail
      refine wp_region_qb (by kernel_rfl) (by kernel_rfl) ?_
      repeat (go_big_quiet_step (first | (with_reducible exact HNq.out _ _)))
      refine wpQuiet_nil ?_
      intro w8 B8
      have hra := (HT7.out.trans (Turn.of_below B8)).at Hr5.out (by omega)
      obtain ⟨⟨a0, a1, a2, a3⟩, f0, f1, f2, f3⟩ := row4 hra
      have Hra := Lib.hid hra
      have HBa := Lib.hid (bot HB1.out (bot HB7.out B8))
      clear hra B8 r_g7 r_e1 r_hp4
      go_wp2_with fail
      refine ret_cells rfl rfl rfl rfl (heap_set4 Hra.out _ _ _ _) Tryz.underlying47 rfl (by kernel_rfl) ⟨_, rfl, ManiO.zero _ _, below_set4 HBa.out (Nat.le_refl _) _ _ _ _⟩
    rotate_left
    focus
      have hlw : IntKind.i64.wrap (((q' + 1 : Nat) : Int) - 1) = (q' : Int) := (IntWalk.i64_in _ ⟨by omega, by omega⟩).trans (by omega)
      have hlw2 : IntKind.i64.wrap ((q' : Int) + 1 - 1) = (q' : Int) := (IntWalk.i64_in _ ⟨by omega, by omega⟩).trans (by omega)
      have hq0' : (0 : Int) ≤ (q' : Int) := by omega
      have hq1' : (0 : Int) < (q' : Int) + 1 := by omega
      have hq3' : (q' : Int) < (q' : Int) + 1 := by omega
      rw [h1] at HN
      have HNq := Lib.hid (qcall (w := w7) (fun W _ => HN.out W))
      cases hls : Op.bytesLess pn.toList nm.toList
      · have hd := Hbad.out (by rw [h1, hbh, hls]; rfl)
        subst hd
        clear HN h1 HJ HPs Hbad Hno Hgo hbh
        go_wp2_with fail
        have r_g7 := cell_regrown g7
        have r_e1 := cell_regrown e1
        have r_hp4 := cell_regrown hp4
        have r_hpc := cell_regrown hpc
        go_wp2_with fail
        refine wp_region_qb (by kernel_rfl) (by kernel_rfl) ?_
        repeat (go_big_quiet_step (first | (with_reducible exact HNq.out _ _)))
        refine wpQuiet_nil ?_
        intro w8 B8
        have hra := (HT7.out.trans (Turn.of_below B8)).at Hr5.out (by omega)
        obtain ⟨⟨a0, a1, a2, a3⟩, f0, f1, f2, f3⟩ := row4 hra
        have Hra := Lib.hid hra
        have HBa := Lib.hid (bot HB1.out (bot HB7.out B8))
        clear hra B8 r_g7 r_e1 r_hp4 r_hpc hlw hlw2 hq0' hq1' hq3'
        go_wp2_with fail
        refine ret_cells rfl rfl rfl rfl (heap_set4 Hra.out _ _ _ _) Tryz.underlying47 rfl (by kernel_rfl) ⟨_, rfl, ManiO.zero _ _, below_set4 HBa.out (Nat.le_refl _) _ _ _ _⟩
      focus
        have hg : (nameB nm && behind (lastN (l j)) nm) = true := by rw [h1, hbh, hls]; rfl
        have Hno' := Lib.hid (Hno.out hg)
        have Hgo' := Lib.hid (Hgo.out hg)
        clear HN h1 Hbad Hno Hgo hbh hg
        go_wp2_with fail
        have r_g7 := cell_regrown g7
        have r_e1 := cell_regrown e1
        have r_hp4 := cell_regrown hp4
        have r_hpc := cell_regrown hpc
        go_wp2_with fail
        refine wp_region_qb (by kernel_rfl) (by kernel_rfl) ?_
        repeat (go_big_quiet_step (first | (with_reducible exact HNq.out _ _)))
        refine wpQuiet_nil ?_
        intro w8 B8
        clear r_g7 r_e1 r_hp4 r_hpc hlw hlw2 hq0' hq1' hq3' hls hpc HNq
    rotate_left
    focus
      have hg : (nameB nm && behind (lastN (l j)) nm) = true := by rw [h1, hbh]; rfl
      rw [h1] at HN
      have HNq := Lib.hid (qcall (w := w7) (fun W _ => HN.out W))
      have Hno' := Lib.hid (Hno.out hg)
      have Hgo' := Lib.hid (Hgo.out hg)
      clear HN h1 Hbad Hno Hgo hbh hg
      go_wp2_with fail
      have r_g7 := cell_regrown g7
      have r_e1 := cell_regrown e1
      have r_hp4 := cell_regrown hp4
      go_wp2_with fail
      refine wp_region_qb (by kernel_rfl) (by kernel_rfl) ?_
      repeat (go_big_quiet_step (first | (with_reducible exact HNq.out _ _)))
      refine wpQuiet_nil ?_
      intro w8 B8
      clear r_g7 r_e1 r_hp4 HNq
    all_goals
      have HB8 := Lib.hid B8
      have g8 := below_cell B8 g7 hbq7
      clear B8
      go_wp2_with fail
      refine (HJ.out w8 HB8.out).mono ?_
      rintro e w9 ⟨rfl, hb9⟩
      have HB9 := Lib.hid (bot HB8.out hb9)
      clear hb9 HJ g8 HB8
      go_wp2_with fail
      refine (HPs.out w9 HB9.out).mono ?_
      rintro e w10 ⟨v4, rfl, ho4, hb10⟩
      have HB10 := Lib.hid (bot HB9.out hb10)
      have hs4 := ho4.slvF (fun b hb => hb.elim)
      obtain ⟨A4, c4, rfl, hcl4, hcm4⟩ := hs4.val
      have Hs4 := Lib.hid hs4
      have hz9 : w5.heap.size ≤ w9.heap.size := (HT7.out.trans (Turn.of_below HB9.out)).size
      have HPm := Lib.hid ((HPia.out.keep HB9.out).more hb10 hz9)
      have HPac := Lib.hid (HPaa.out.keep HB10.out)
      have HTc := Lib.hid (HT7.out.trans (Turn.of_below HB10.out))
      have hra := HTc.out.at Hr5.out (by omega)
      obtain ⟨⟨a0, a1, a2, a3⟩, f0, f1, f2, f3⟩ := row4 hra
      have Hra := Lib.hid hra
      have HBa := Lib.hid (bot HB1.out (bot HB7.out HB10.out))
      have g10 := below_cell HB10.out g7 hbq7
      have e10 := below_cell HB10.out e1 hbw7
      have hp10 := below_cell HB10.out hp4 (cell_lt hp4)
      have hbq10 := Nat.lt_of_lt_of_le hbq7 HB10.out.size
      unfold maxLen at hcm4
      clear hb10 ho4 hs4 HPs hra HPia HPaa g7 hp4
      by_cases hpe : pe = 0
      case neg =>
        have hd := Hno'.out (.inl hpe)
        subst hd
        have hbe : (pe != 0) = true := by simpa using hpe
        clear hpe Hno' Hgo'
        go_wp2_with fail
        refine ret_cells rfl rfl rfl rfl (heap_set4 Hra.out _ _ _ _) Tryz.underlying47 rfl (by kernel_rfl) ⟨_, rfl, ManiO.zero _ _, below_set4 HBa.out (Nat.le_refl _) _ _ _ _⟩
      by_cases hpl : pl = []
      · have hd := Hno'.out (.inr hpl)
        subst hd hpe hpl
        clear Hno' Hgo'
        go_wp2_with fail
        refine ret_cells rfl rfl rfl rfl (heap_set4 Hra.out _ _ _ _) Tryz.underlying47 rfl (by kernel_rfl) ⟨_, rfl, ManiO.zero _ _, below_set4 HBa.out (Nat.le_refl _) _ _ _ _⟩
      have hnx := Hgo'.out hpe hpl
      have Hnx := Lib.hid hnx
      subst hpe
      have hnl : 0 < pl.length := List.length_pos_iff.2 hpl
      obtain ⟨m4, hm4⟩ : ∃ m, m = pl.length := ⟨_, rfl⟩
      rw [← hm4] at Hs4 hcl4 hnl ⊢
      have hml : ((m4 : Int) == 0) = false := by rw [beq_eq_false_iff_ne]; omega
      clear hpl Hno' Hgo' hm4 hnl hnx a0 a1 a2 a3 f0 f1 f2 f3 Hra HBa e1
      have Hown : Hid (Own rDep w10 w5.heap.size 38 (v j) (l j) (fun b => S b ∨ Fresh w9.heap.size w10 b)) := HPm.out.1 j hq3
      rw [Hvj.out] at Hown
      have Hh : Hid (rDep.holds w10 (fun b => S b ∨ Fresh w9.heap.size w10 b) ⟨nm, pl⟩ [.string nm, .slice A4 m4 c4]) := ⟨_, rfl, hnz, Hs4.out.more fun b hb _ => .inr hb⟩
      have hfz := HPac.out.free j
      have hrow : some M ≠ (Value.slice _ _ cd).ownBlock := fun e => by have := (Hown.out.lt _ e.symm).1; omega
      have hrow2 : some bq ≠ (Value.slice _ _ cd).ownBlock := fun e => by
        have h1 := (HPi.out.1 j hq3).lt
        rw [Hvj.out] at h1
        have := (h1 _ e.symm).2
        have := Hbq.out
        omega
      have hrow3 : some bw ≠ (Value.slice _ _ cd).ownBlock := fun e => by have := (Hown.out.lt _ e.symm).1; have := HB5.out.size; omega
      have Hrow := Lib.hid hrow
      have Hrow2 := Lib.hid hrow2
      have Hrow3 := Lib.hid hrow3
      have HP1 : Hid (M < w10.heap.size) := by have := HTc.out.size; unfold Hid; omega
      have HP2 : Hid (bq < w10.heap.size) := hbq10
      have HP3 : Hid (bw < w10.heap.size) := cell_lt e10
      have x4 := fun o => (cell_same (Below.heap_alloc w10 o _ HP1.out) _ none).trans hp10
      have xg := fun o => (cell_same (Below.heap_alloc w10 o _ HP2.out) _ none).trans g10
      have xe := fun o => (cell_same (Below.heap_alloc w10 o _ HP3.out) _ none).trans e10
      have hz10 : w5.heap.size ≤ w10.heap.size := HTc.out.size
      clear hrow hrow2 hrow3
      go_wp2_with fail
      go_region_law
       (first
        | (refine step_push (by rfl) _ _ _ (by rfl) elt_dep Tryz.underlying24 (by rfl) (Hown.out.drew.alloc _) ⟨w10.heap.size, 0, none⟩ 1 [.string nm, .slice A4 m4 c4] ⟨nm, pl⟩ (by rfl) (Rp.alloc (Rp.drew Hh.out) _)
              (news_of w10.drew #[.string nm, .slice A4 m4 c4] _) (by rw [← Hnd.out]; unfold maxLen; omega) (by rw [← Hnd.out]; omega) (by simp; omega) (w10.heap.size + 1) (by simp) ?_; intro g6 cap6 w11 hown6 hgrow hat hg6; have hc6 := hgrow.cell ((cell_same (Below.heap_alloc w10.drew _ _ HP1.out) _ _).trans hp10) Hrow.out; have hf6 := (frozen_same ((hgrow.block _ (by simp; have := HP1.out; omega) Hrow.out).trans (Below.heap_alloc w10.drew _ _ HP1.out)) j none).trans hfz))
      all_goals
        have hg7 := hgrow
        rw [← Hvj.out] at hg7 hat
        obtain ⟨s1, s2, s3⟩ := parts_step (hd := []) hM5 HPm.out HPac.out HTc.out hq3 hown6 hg7 hat
        simp only [List.length_nil, Nat.zero_add] at s1 s2 s3
        have S1 := Lib.hid s1
        have S2 := Lib.hid s2
        have S3 := Lib.hid s3
        clear s1 s2 s3 hg7 hgrow hown6 hat hc6 hf6 hp10 hfz HPm HPac HTc Hown Hh g10 e10 x4 xg xe
        go_wp2_with fail
        go_roundw
        case rel =>
          refine ⟨k + 1, j, _, _, _, by omega, by omega, rfl, by go_num, Hnx, ?_, S1, S2, S3⟩
          intro j' hj'
          have := Hlen.out j' hj'
          show (if j' = j then l j ++ [_] else l j').length ≤ k + 1
          split
          · rename_i e
            rw [e] at this
            rw [List.length_append, List.length_singleton]; omega
          · omega
        case measure => simp [intOf]; omega
end Go.Proofs.YtldjldkejjeamaaGreatDoor
set_option autoImplicit false
set_option relaxedAutoImplicit false
set_option linter.unusedVariables false
set_option linter.unusedSimpArgs false
namespace Go.Proofs.YtldjldkejjeamaaGreatDoor
open Go.Rows Go.RowKit Go.Shelf Go.Sort

theorem maniV_zero (w : World) (S : Nat → Prop) : ManiV w S maniZ (.agg #[.slice none 0 0, .slice none 0 0, .slice none 0 0, .slice none 0 0]) :=
  ⟨_, _, _, _, _, _, _, _, _, _, _, _, rfl, SlV.nil_ _ _ _, SlV.nil_ _ _ _, SlV.nil_ _ _ _, SlV.nil_ _ _ _⟩
theorem set4_other {W : World} {b k : Nat} (h : k ≠ b) (a0 a1 a2 a3 : Value) : ((((W.setCell ⟨b, 0, none⟩ a0).setCell ⟨b, 1, none⟩ a1).setCell ⟨b, 2, none⟩ a2).setCell ⟨b, 3, none⟩ a3).heap[k]? = W.heap[k]? :=
  (Below.heap_setCell _ _ _ k h).trans ((Below.heap_setCell _ _ _ k h).trans ((Below.heap_setCell _ _ _ k h).trans (Below.heap_setCell _ _ _ k h)))
theorem maniV_set4 {W : World} {m : Mani} {u : Value} {B b : Nat} (h : ManiV W (fun k => B ≤ k) m u) (hb : b < B) (a0 a1 a2 a3 : Value) :
    ManiV ((((W.setCell ⟨b, 0, none⟩ a0).setCell ⟨b, 1, none⟩ a1).setCell ⟨b, 2, none⟩ a2).setCell ⟨b, 3, none⟩ a3) (fun k => b ≤ k) m u := by
  obtain ⟨A0, n0, c0, A1, n1, c1, A2, n2, c2, A3, n3, c3, h0, h1, h2, h3, h4⟩ := h
  have key : ∀ k, B ≤ k → k < W.heap.size → ((((W.setCell ⟨b, 0, none⟩ a0).setCell ⟨b, 1, none⟩ a1).setCell ⟨b, 2, none⟩ a2).setCell ⟨b, 3, none⟩ a3).heap[k]? = W.heap[k]? := fun k hk _ => set4_other (by omega) _ _ _ _
  exact ⟨A0, n0, c0, A1, n1, c1, A2, n2, c2, A3, n3, c3, h0, (h1.keep key).more (fun k hk _ => by omega), (h2.keep key).more (fun k hk _ => by omega), (h3.keep key).more (fun k hk _ => by omega), (h4.keep key).more (fun k hk _ => by omega)⟩

set_option maxHeartbeats 8000000 in
set_option maxRecDepth 100000 in
theorem refManiParse_any (t : ByteArray) (w : World) (ht : t.size ≤ 4611686018427387904) :
    Calls Tryz.prog 35 #[.string t] w fun e w' => ∃ u, e = .returned (.tuple #[u, .int .i64 (maniQ t).2]) ∧ ManiV w' (fun b => w.heap.size ≤ b) (maniQ t).1 u ∧ Below w.heap.size w w' := by
  obtain ⟨L, en, hQ⟩ : ∃ L en, scanQ 4096 t = (L, en) := ⟨_, _, rfl⟩
  have hbd := scan_bounds (most := 4096) (t := t)
  rw [hQ] at hbd
  obtain ⟨hL1, hL2⟩ := hbd
  simp only at hL1 hL2
  have Hsc : Hid (∀ W, Calls Tryz.prog 51 #[.string t, .int .i64 4096] W fun e w' => ∃ v, (∃ k : Int, e = .returned (.tuple #[v, .int .i64 en, .int .i64 k])) ∧ SlV (rSlice rStr) w' (fun b => W.heap.size ≤ b) L v ∧ Below W.heap.size W w') := fun W => by
    have := refScan_any t 4096 W (by decide) ht
    rw [hQ] at this
    exact this
  have K0 : Hid (en ≠ 0 → maniQ t = (maniZ, en)) := fun h => maniQ_bad hQ h
  have K1 : Hid (en = 0 → (∀ r, L ≠ [projectW] :: r) → maniQ t = (maniZ, 22)) := fun h h2 => maniQ_form (by rw [← h]; exact hQ) h2
  have K2 := Lib.hid (fun (h : en = 0) rest (hl : L = [projectW] :: rest) => maniQ_line (t := t) (rest := rest) (by rw [← h, ← hl]; exact hQ))
  have HL1 := Lib.hid hL1
  have HL2 := Lib.hid hL2
  clear hL1 hL2 hQ
  generalize maniQ t = R at *
  go_enter Tryz.func35, Tryz.ntmps35
  go_wp2_with fail
  obtain ⟨w0, hw0⟩ : ∃ w0, w0 = w.alloc (.cells #[.slice none 0 0, .slice none 0 0, .slice none 0 0, .slice none 0 0] 47) := ⟨_, rfl⟩
  have hr0 : w0.heap[w.heap.size]? = some (.cells #[.slice none 0 0, .slice none 0 0, .slice none 0 0, .slice none 0 0] 47 (0, 0)) := by rw [hw0]; exact heap_alloc_new w _
  have HB0 : Hid (Below w.heap.size w w0) := by unfold Hid; rw [hw0]; exact bal (Below.refl _ _) _
  have hz0 : w.heap.size < w0.heap.size := (Array.getElem?_eq_some_iff.1 hr0).1
  rw [← hw0]
  clear hw0
  have Hr0 := Lib.hid hr0
  have Hz0 := Lib.hid hz0
  clear hr0 hz0
  refine (Hsc.out w0).mono ?_
  rintro e w1 ⟨vL, ⟨kk, rfl⟩, hL, hb1⟩
  have Hr1 := Lib.hid ((hb1.block _ Hz0.out).trans Hr0.out)
  have HB1 := Lib.hid (bot HB0.out hb1)
  have hz1 : w.heap.size < w1.heap.size := Nat.lt_of_lt_of_le Hz0.out hb1.size
  have hL' := hL.more (S' := fun b => b < w1.heap.size) fun b _ h => h
  obtain ⟨AL, cL, rfl, hcl, hcm⟩ := hL'.val
  obtain ⟨n, hn⟩ : ∃ n, n = L.length := ⟨_, rfl⟩
  have hcl2 : n ≤ cL := by rw [hn]; exact hcl
  unfold maxLen at hcm
  have hn7 : n ≤ 4097 := by rw [hn]; exact HL1.out
  rw [← hn] at hL' ⊢
  clear hL hb1 HB0 Hr0 Hz0 Hsc hcl
  have HL := Lib.hid hL'
  have Hn := Lib.hid hn
  clear hL' hn
  by_cases he : en = 0
  case neg =>
    have hbe : (en != 0) = true := by simpa using he
    have hq := K0.out he
    subst hq
    obtain ⟨⟨a0, a1, a2, a3⟩, f0, f1, f2, f3⟩ := row4 Hr1.out
    clear he K0 K1 K2
    go_wp2_with fail
    refine ret_cells rfl rfl rfl rfl (heap_set4 Hr1.out _ _ _ _) Tryz.underlying47 rfl (by kernel_rfl) ⟨_, rfl, maniV_zero _ _, below_set4 HB1.out (Nat.le_refl _) _ _ _ _⟩
  have K1' := Lib.hid (K1.out he)
  have K2' := Lib.hid (K2.out he)
  clear K0 K1 K2
  subst he
  cases L with
  | nil =>
    have hq := K1'.out (by intro r e; cases e)
    subst hq
    have hn0 : n = 0 := Hn.out
    subst hn0
    obtain ⟨⟨a0, a1, a2, a3⟩, f0, f1, f2, f3⟩ := row4 Hr1.out
    clear K1' K2'
    go_wp2_with fail
    refine ret_cells rfl rfl rfl rfl (heap_set4 Hr1.out _ _ _ _) Tryz.underlying47 rfl (by kernel_rfl) ⟨_, rfl, maniV_zero _ _, below_set4 HB1.out (Nat.le_refl _) _ _ _ _⟩
  | cons ws0 rest =>
  have hnr : n = rest.length + 1 := Hn.out
  obtain ⟨b0, o0, rfl, _, hb0⟩ := HL.out.at (by simp)
  obtain ⟨A0, cc0, c0, hs0⟩ := HL.out.row (i := 0) (x := ws0) rfl
  rw [Nat.add_zero] at c0
  obtain ⟨m, hm⟩ : ∃ m, m = ws0.length := ⟨_, rfl⟩
  rw [← hm] at c0 hs0
  have Hs0 := Lib.hid hs0
  have hn0 : ((n : Int) == 0) = false := by rw [beq_eq_false_iff_ne]; omega
  have hn1 : 0 < n := by omega
  have hnI : (0 : Int) < (n : Int) := by omega
  have HLr := Lib.hid (HL.out.cut 1 hn1)
  rw [List.drop_one, List.tail_cons] at HLr
  have Hb0 := Lib.hid hb0
  have Hnr := Lib.hid hnr
  clear hs0 HL Hn hb0 hnr
  by_cases hm1 : m = 1
  case neg =>
    have hq := K1'.out (by rintro r e; cases e; simp at hm; omega)
    subst hq
    have hbe : ((m : Int) != 1) = true := by rw [bne_iff_ne]; omega
    obtain ⟨⟨a0, a1, a2, a3⟩, f0, f1, f2, f3⟩ := row4 Hr1.out
    clear K1' K2' hm hm1 Hs0
    go_wp2_with fail
    refine ret_cells rfl rfl rfl rfl (heap_set4 Hr1.out _ _ _ _) Tryz.underlying47 rfl (by kernel_rfl) ⟨_, rfl, maniV_zero _ _, below_set4 HB1.out (Nat.le_refl _) _ _ _ _⟩
  obtain ⟨a, rfl⟩ : ∃ a, ws0 = [a] := by
    match ws0, hm with
    | [], h => simp at h; omega
    | [a], _ => exact ⟨a, rfl⟩
    | _ :: _ :: _, h => simp at h; omega
  subst hm1
  clear hm
  obtain ⟨b1, o1, rfl, _, hb1⟩ := Hs0.out.at (by simp)
  obtain ⟨d0, _⟩ := Hs0.out.str (i := 0) (x := a) rfl
  rw [Nat.add_zero] at d0
  clear Hs0
  by_cases hpj : a = projectW
  case neg =>
    have hq := K1'.out (by rintro r e; cases e; exact hpj rfl)
    subst hq
    have hbe : (a.toList == [112, 114, 111, 106, 101, 99, 116]) = false := by
      rw [beq_eq_false_iff_ne]
      exact fun e => hpj (data_inj (by rw [← Go.ByteArray.toList_eq, e]; rfl))
    obtain ⟨⟨a0, a1, a2, a3⟩, f0, f1, f2, f3⟩ := row4 Hr1.out
    clear K1' K2' hpj
    go_wp2_with fail
    refine ret_cells rfl rfl rfl rfl (heap_set4 Hr1.out _ _ _ _) Tryz.underlying47 rfl (by kernel_rfl) ⟨_, rfl, maniV_zero _ _, below_set4 HB1.out (Nat.le_refl _) _ _ _ _⟩
  have hbe : (a.toList == [112, 114, 111, 106, 101, 99, 116]) = true := by rw [hpj]; decide +kernel
  obtain ⟨K2e, K2l⟩ := K2'.out rest (by rw [hpj])
  have K2e' := Lib.hid K2e
  have K2l' := Lib.hid K2l
  clear K1' K2' K2e K2l hpj
  have hsl : ∀ W, (Instr.slice 58 (.slice (some ⟨b0, o0, none⟩) n cL) (some (.int .i64 1)) none none).run Tryz.prog W = .ok (.slice (if cL = 1 then some (⟨b0, o0, none⟩ : Addr) else Option.map (fun x : Addr => x.add (1 * 1)) (some (⟨b0, o0, none⟩ : Addr))) (n - 1) (cL - 1)) W := fun W =>
    run_from (P := Tryz.prog) (t := 58) (e := 61) (z := 1) Tryz.underlying58 (by kernel_rfl) (fun _ => by kernel_rfl) (some ⟨b0, o0, none⟩) n cL 1 hn1 W
  obtain ⟨X, hX⟩ : ∃ X, X = (if cL = 1 then some (⟨b0, o0, none⟩ : Addr) else Option.map (fun x : Addr => x.add (1 * 1)) (some (⟨b0, o0, none⟩ : Addr))) := ⟨_, rfl⟩
  have HLq : Hid (SlV (rSlice rStr) w1 (fun b => b < w1.heap.size) rest (.slice X (n - 1) (cL - 1))) := by unfold Hid; rw [hX]; exact HLr.out
  rw [← hX] at hsl
  obtain ⟨ln, hln⟩ : ∃ ln, ln = n - 1 := ⟨_, rfl⟩
  rw [← hln] at hsl HLq
  have hrl : rest.length ≤ 100000 := by have := Hnr.out; omega
  have Hrl := Lib.hid hrl
  clear hX hln HLr hrl
  have HLs : Hid (∀ W A2 c2 T, Below w1.heap.size w1 W → SlV rStr W T maniOrder (.slice A2 4 c2) → Calls Tryz.prog 53 #[.slice X ln (cL - 1), .slice A2 4 c2] W (ListsW (listsE maniOrder rest (0, rm 4 fun _ => [])) 4 W)) := fun W A2 c2 T hW hT =>
    refLists_any rest maniOrder X ln (cL - 1) A2 4 c2 W _ T (HLq.out.belowSize hW) hT (by decide) (by decide) Hrl.out (fun ws hws => by
      obtain ⟨q1, q2, q3⟩ := HL2.out ws (by simp [hws])
      exact ⟨q1, by omega, by omega⟩)
  go_wp2_with fail
  obtain ⟨w6, hw6⟩ : ∃ w6, w6 = w1.alloc (.cells #[.string ⟨#[110, 101, 101, 100, 115]⟩, .string ⟨#[100, 101, 118]⟩, .string ⟨#[108, 105, 107, 101, 115]⟩, .string ⟨#[112, 105, 110, 115]⟩] 9) := ⟨_, rfl⟩
  have hwb : w6.heap[w1.heap.size]? = some (.cells #[.string ⟨#[110, 101, 101, 100, 115]⟩, .string ⟨#[100, 101, 118]⟩, .string ⟨#[108, 105, 107, 101, 115]⟩, .string ⟨#[112, 105, 110, 115]⟩] 9 (0, 0)) := by rw [hw6]; exact heap_alloc_new w1 _
  have HB16 : Hid (Below w1.heap.size w1 w6) := by unfold Hid; rw [hw6]; exact bal (Below.refl _ _) _
  have hso : SlV rStr w6 (fun _ => True) maniOrder (.slice (some ⟨w1.heap.size, 0, none⟩) 4 4) := SlV.of_block hwb (elemsS (l := maniOrder) (by decide)) trivial rfl (by decide) (by decide)
  have Hso := Lib.hid hso
  rw [← hw6]
  clear hw6 hwb hso
  refine (HLs.out w6 _ _ _ HB16.out Hso.out).mono ?_
  rintro e w7 ⟨hb7, (⟨k, hk0, hk, rfl⟩ | ⟨P, v, l, hk, rfl, hPz, hPa, hPs⟩)⟩
  · have hq := K2e'.out k hk
    subst hq
    have hke : (k != 0) = true := by rw [bne_iff_ne]; exact hk0
    have HB17 := Lib.hid (bot HB16.out hb7)
    have hr7 := (HB17.out.block _ hz1).trans Hr1.out
    obtain ⟨⟨a0, a1, a2, a3⟩, f0, f1, f2, f3⟩ := row4 hr7
    have Hr7 := Lib.hid hr7
    clear hr7 hb7 hk hk0 HLs K2l' K2e' HLq Hso c0 d0
    go_wp2_with fail
    refine ret_cells rfl rfl rfl rfl (heap_set4 Hr7.out _ _ _ _) Tryz.underlying47 rfl (by kernel_rfl) ⟨_, rfl, maniV_zero _ _, below_set4 (bot HB1.out HB17.out) (Nat.le_refl _) _ _ _ _⟩
  have HB17 := Lib.hid (bot HB16.out hb7)
  obtain ⟨Kf, Kt⟩ := K2l'.out l hk
  have Kf' := Lib.hid Kf
  have Kt' := Lib.hid Kt
  have hP0 : w7.cell? ⟨P, 0, none⟩ = some (v 0) := hPa.cell (j := 0) (by decide)
  have hP1 : w7.cell? ⟨P, 1, none⟩ = some (v 1) := hPa.cell (j := 1) (by decide)
  have hP2 : w7.cell? ⟨P, 2, none⟩ = some (v 2) := hPa.cell (j := 2) (by decide)
  have hP3 : w7.cell? ⟨P, 3, none⟩ = some (v 3) := hPa.cell (j := 3) (by decide)
  have s0 := hPs 0 (by decide)
  have s1 := hPs 1 (by decide)
  have s2 := hPs 2 (by decide)
  have s3 := hPs 3 (by decide)
  obtain ⟨E0, e0, hv0, _, _⟩ := s0.val
  obtain ⟨E1, e1, hv1, _, _⟩ := s1.val
  obtain ⟨E2, e2, hv2, _, _⟩ := s2.val
  obtain ⟨E3, e3, hv3, _, _⟩ := s3.val
  rw [hv0] at hP0 s0
  rw [hv1] at hP1 s1
  rw [hv2] at hP2 s2
  rw [hv3] at hP3 s3
  have hw16 : w1.heap.size ≤ w6.heap.size := HB16.out.size
  have HPV : Hid (ManiV w7 (fun b => w1.heap.size ≤ b) ⟨l 0, l 1, l 2, l 3⟩ (.agg #[.slice E0 (l 0).length e0, .slice E1 (l 1).length e1, .slice E2 (l 2).length e2, .slice E3 (l 3).length e3])) :=
    ⟨_, _, _, _, _, _, _, _, _, _, _, _, rfl, s0.more fun b hb _ => Nat.le_trans hw16 hb, s1.more fun b hb _ => Nat.le_trans hw16 hb, s2.more fun b hb _ => Nat.le_trans hw16 hb, s3.more fun b hb _ => Nat.le_trans hw16 hb⟩
  clear hb7 hk hPa hPs s0 s1 s2 s3 hv0 hv1 hv2 hv3 Kf Kt K2l' K2e' HLs HLq Hso c0 d0
  have HM : Hid (∀ W, Below w7.heap.size w7 W → Calls Tryz.prog 28 #[.agg #[.slice E0 (l 0).length e0, .slice E1 (l 1).length e1, .slice E2 (l 2).length e2, .slice E3 (l 3).length e3]] W fun e w' => e = .returned (.bool (maniB ⟨l 0, l 1, l 2, l 3⟩)) ∧ Below W.heap.size W w') := fun W hW => refManiMay_any _ _ W _ (HPV.out.keep hW)
  have Hr7 := Lib.hid ((HB17.out.block _ hz1).trans Hr1.out)
  have hz7 : w.heap.size < w7.heap.size := Nat.lt_of_lt_of_le hz1 HB17.out.size
  generalize maniB ⟨l 0, l 1, l 2, l 3⟩ = okB at *
  generalize (l 0).length = m0 at *
  generalize (l 1).length = m1 at *
  generalize (l 2).length = m2 at *
  generalize (l 3).length = m3 at *
  go_wp2_with fail
  go_region_held3 (fun w' => w'.cell? ⟨P, 0, none⟩ = some (.slice E0 m0 e0) ∧ w'.cell? ⟨P, 1, none⟩ = some (.slice E1 m1 e1) ∧ w'.cell? ⟨P, 2, none⟩ = some (.slice E2 m2 e2) ∧ w'.cell? ⟨P, 3, none⟩ = some (.slice E3 m3 e3)) (first | go_keep) (fail)
  clear hP0 hP1 hP2 hP3
  obtain ⟨w9, hw9⟩ : ∃ w9, w9 = (w7.alloc (.cells #[.slice E0 m0 e0, .slice E1 m1 e1, .slice E2 m2 e2, .slice E3 m3 e3] 47)).drew := ⟨_, rfl⟩
  have hr9 : w9.heap[w7.heap.size]? = some (.cells #[.slice E0 m0 e0, .slice E1 m1 e1, .slice E2 m2 e2, .slice E3 m3 e3] 47 (0, 0)) := by rw [hw9]; exact heap_alloc_new w7 _
  have HB79 : Hid (Below w7.heap.size w7 w9) := by unfold Hid; rw [hw9]; exact (bal (Below.refl _ _) _).drew
  have hz9 : w7.heap.size < w9.heap.size := (Array.getElem?_eq_some_iff.1 hr9).1
  obtain ⟨⟨a0, a1, a2, a3⟩, _⟩ := row4 hr9
  rw [← hw9]
  clear hw9
  go_wp2_with fail
  refine (HM.out w9 HB79.out).mono ?_
  rintro e w10 ⟨rfl, hb10⟩
  have HB710 := Lib.hid (bot HB79.out hb10)
  have hr10 := (HB710.out.block _ hz7).trans Hr7.out
  obtain ⟨⟨b0', b1', b2', b3'⟩, f0, f1, f2, f3⟩ := row4 hr10
  have Hr10 := Lib.hid hr10
  obtain ⟨⟨g0, g1, g2, g3⟩, _⟩ := row4 ((hb10.block _ hz9).trans hr9)
  have HPV10 := Lib.hid (HPV.out.keep HB710.out)
  have HBf := Lib.hid (bot HB1.out (bot HB17.out HB710.out))
  clear hb10 hr10 hr9 a0 a1 a2 a3 HM HPV
  cases okB with
  | false =>
    have hq := Kf'.out (by first | rfl | trivial)
    subst hq
    clear Kf' Kt'
    go_wp2_with fail
    refine ret_cells rfl rfl rfl rfl (heap_set4 Hr10.out _ _ _ _) Tryz.underlying47 rfl (by kernel_rfl) ⟨_, rfl, maniV_zero _ _, below_set4 HBf.out (Nat.le_refl _) _ _ _ _⟩
  | true =>
    have hq := Kt'.out (by first | rfl | trivial)
    subst hq
    clear Kf' Kt'
    go_wp2_with fail
    refine ret_cells rfl rfl rfl rfl (heap_set4 Hr10.out _ _ _ _) Tryz.underlying47 rfl (by kernel_rfl) ⟨_, rfl, ?_, below_set4 HBf.out (Nat.le_refl _) _ _ _ _⟩
    exact maniV_set4 HPV10.out hz1 _ _ _ _
end Go.Proofs.YtldjldkejjeamaaGreatDoor
