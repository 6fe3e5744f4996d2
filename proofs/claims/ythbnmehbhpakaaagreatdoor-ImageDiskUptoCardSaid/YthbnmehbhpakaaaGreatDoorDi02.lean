/-
  Regions that draw their order and whose operations read, their callees leaving all that was there: one walk in the text's order; also with a tail of operations that may write, where all else comes ahead of it. Over any program. (The kit's quiet walk and its still tail, at one class of worlds.)
  What a call is handed, opened: from the form's reading of an argument to a reading as data, with the form's own bounds on sizes; over any program.
-/
import Derived.Lib.QuietBelow
import Derived.BigQuiet
import Derived.StillTail
import Derived.Test.YthbnmehbhpakaaaGreatDoorDi01
import Derived.ProofKit
import Derived.SizedLaws
import Derived.Deep.Slices
import Derived.OpenShut
import Derived.Test.YthbnmehbhpakaaaGreatDoorRows
namespace Go.Proofs.YthbnmehbhpakaaaGreatDoor
open Go.RowKit Go.Sort
set_option linter.unusedVariables false

/-- a callee's contract at every later world, met in the walk of such a region -/
theorem qcall {P : Program} {f : FuncId} {args : Array Value} {w : World} {v : Value}
    (h : ∀ W, Below w.heap.size w W → Calls P f args W fun e w' => e = .returned v ∧ Below W.heap.size W w') :
    ∀ d os, Calls P f args (grow (redrawn w d) os) fun e w'' => e = .returned v ∧ ∃ p : Regrown, w'' = grow (redrawn w p.d) p.os :=
  fun d os => Calls.regrown_of (h _ (below_regrown w d os))
theorem below_of_regrown {B : Nat} {w0 w : World} (h : Below B w0 w) (hB : B ≤ w.heap.size) (d : Nat) (os : Array Obj) : Below B w0 (grow (redrawn w d) os) :=
  h.trans ((below_regrown w d os).mono hB)

section
variable {P : Program} {ops : Array Oper} {md : Region.Mode} {C : World → Prop}

/-- the first n operations in whatever order they may come up, each quiet in the class; then L -/
def headQ (P : Program) (md : Region.Mode) (ops : Array Oper) (C : World → Prop) (n : Nat) (L : Array Bool → Act → Prop) : Nat → Array Bool → Act → Prop
  | 0, listed, a => L listed a
  | f + 1, listed, a => Region.ready md ops listed ≠ [] ∧ ∀ i ∈ Region.ready md ops listed, i < n ∧ qOp P ops C i (headQ P md ops C n L f (listed.setIfInBounds i true)) a

theorem headQ_any {n g : Nat} {L : Array Bool → Act → Prop} {Q : Exit → Act → World → Prop} (hL : ∀ listed a w, C w → L listed a → wpAny P md ops Q g listed a w)
    (f : Nat) : ∀ (listed : Array Bool) (a : Act) (w : World), C w → headQ P md ops C n L f listed a → wpAny P md ops Q (f + g) listed a w := by
  induction f with
  | zero => intro listed a w hw h; rw [Nat.zero_add]; exact hL _ _ _ hw h
  | succ f ih =>
    intro listed a w hw h
    rw [show f + 1 + g = (f + g) + 1 from by omega]
    exact ⟨fun h0 => absurd h0 h.1, fun i hi => wpOp_of_qOp hw (fun a' w' hw' h' => ih _ a' w' hw' h') (h.2 i hi).2⟩

/-- an operation that may come up, and is apart from all that does not wait for it, may be taken first -/
theorem headQ_first {n i : Nat} {oi : Oper} {v : Value} {L : Array Bool → Act → Prop} (hi : ops[i]? = some oi) (hsel : ∀ (j : Nat) (o : Oper) cs b, ops[j]? = some o → o.op ≠ .select cs b)
    (hs : Region.sinkB md ops n = true) (hc : Region.chainB md ops n = true) (hn : n < ops.size) (hin : i < n) (hdone : ∀ listed a, L listed a → ∀ j ∈ Region.ready md ops listed, n ≤ j) (f : Nat) :
    ∀ (listed : Array Bool) (a : Act), HeadInv md ops n listed →
      (∀ j oj, ops[j]? = some oj → j ≠ i → listed.getD j true = false → (∀ e ∈ oj.after, Region.binds md e = true → e.on ≠ i) → oi.apart ops oj = true) →
      i ∈ Region.ready md ops listed → YieldsIn P ops C oi v a →
      headQ P md ops C n L f (listed.setIfInBounds i true) (a.put oi.dst v) → headQ P md ops C n L (f + 1) listed a := by
  induction f with
  | zero =>
    intro listed a inv _ hr hy H
    refine ⟨fun h => (by rw [h] at hr; cases hr), fun j hj => ?_⟩
    have hjn : j < n := Nat.lt_of_not_le fun h => tail_waits hs hc hn inv _ i rfl hin (mem_ready.1 hr).1 j h hj
    refine ⟨hjn, ?_⟩
    by_cases hji : j = i
    · subst hji; exact hy.qOp hi H
    · exact absurd (hdone _ _ H j (ready_mono hj hji)) (by omega)
  | succ f ih =>
    intro listed a inv hfree hr hy H
    refine ⟨fun h => (by rw [h] at hr; cases hr), fun j hj => ?_⟩
    have hjn : j < n := Nat.lt_of_not_le fun h => tail_waits hs hc hn inv _ i rfl hin (mem_ready.1 hr).1 j h hj
    refine ⟨hjn, ?_⟩
    by_cases hji : j = i
    · subst hji; exact hy.qOp hi H
    · obtain ⟨hjun, oj, hoj, hall⟩ := mem_ready.1 hj
      have hnot : ∀ e ∈ oj.after, Region.binds md e = true → e.on ≠ i := fun e he hb heq => by
        have h1 := hall e he hb
        rw [heq, getD_both (mem_ready.1 hr).1] at h1
        cases h1
      have h2 := qOp_put hoj (hfree j oj hoj hji hjun hnot) (fun cs b => hsel i oi cs b hi) (fun cs b => hsel j oj cs b hoj) hy (H.2 j (ready_mono hj hji)).2
      refine qOp_mono (fun a' h3 => ih (listed.setIfInBounds j true) a' (inv.set hj hjn) (fun k ok hk hki hun hno => hfree k ok hk hki ?_ hno) (ready_mono hr (Ne.symm hji)) h3.1 ?_) h2
      · by_cases hjk : j = k
        · subst hjk; exact hjun
        · rw [getD_set_ne true hjk] at hun; exact hun
      · rw [Array.setIfInBounds_comm _ _ hji]
        exact h3.2

theorem headQ_lex {n g : Nat} {Lq : Act → Prop} (hsel : Region.noSelect ops = true) (hs : Region.sinkB md ops n = true) (hc : Region.chainB md ops n = true) (hn : n < ops.size) (l : List Oper) :
    ∀ (k : Nat) (listed : Array Bool) (a : Act), (∀ j, j < l.length → l[j]? = ops[k + j]?) → k + l.length = n → HeadInv md ops n listed →
    Region.lexHead md ops g l.length k listed = true → wpQuiet P ops C Lq l a →
    headQ P md ops C n (fun listed' a' => Region.seqB md ops g n listed' = true ∧ Lq a') l.length listed a := by
  induction l with
  | nil =>
    intro k listed a _ hk _ hB h
    have hkn : k = n := by simpa using hk
    subst hkn
    exact ⟨by simpa [Region.lexHead] using hB, h⟩
  | cons o l ih =>
    intro k listed a hl hk inv hB h
    have h0 : ops[k]? = some o := by simpa using (hl 0 (by simp)).symm
    simp only [List.length_cons, Region.lexHead, Bool.and_eq_true] at hB
    have hkn : k < n := by simp only [List.length_cons] at hk; omega
    have hr : k ∈ Region.ready md ops listed := by simpa using hB.1.1
    obtain ⟨v, hy, hK⟩ := yieldsIn_of_qOp (K := wpQuiet P ops C Lq l) h0 (by unfold qOp; simp only [h0]; exact h)
    exact headQ_first h0 (Region.noSelect_spec hsel) hs hc hn hkn (fun listed' a' hL => seqB_ready hL.1) l.length listed a inv (Region.free_spec h0 hB.1.2) hr hy
      (ih (k + 1) _ _ (fun j hj => by have := hl (j + 1) (by simp; omega); simpa [Nat.add_assoc, Nat.add_comm 1 j] using this) (by simp only [List.length_cons] at hk; omega) (inv.set hr hkn) hB.2 hK)

/-- ONE WALK: the first n operations quiet in the class, in the text's order; behind them, in any world of the class, the rest in their order -/
theorem wp_region_quiet_tail {id : Nat} {Q : Exit → Act → World → Prop} {a : Act} {w : World} {l : List Oper} (n : Nat) (hm : P.follows .mixedOrders = true) (hB : Region.lexTailB .any l.toArray n = true) (hC : C { w with drawn := w.drawn + 1 })
    (h : wpQuiet P l.toArray C (fun a' => ∀ w', C w' → wpList P l.toArray Q (l.drop n) a' w') (l.take n) a) : (Code.region id l.toArray true).wp P Q a w := by
  simp only [Region.lexTailB, Bool.and_eq_true, decide_eq_true_eq] at hB
  obtain ⟨⟨⟨⟨hsel, hn⟩, hs⟩, hc⟩, hlex⟩ := hB
  have hn' : n < l.length := by simpa using hn
  have htl : (l.take n).length = n := by simp; omega
  have hdl : (l.drop n).length = l.toArray.size - n := by simp
  have inv0 : HeadInv .any l.toArray n (Array.replicate l.toArray.size false) :=
    ⟨by simp, fun j oj _ hl => (by rw [getD_replicate_false] at hl; cases hl), fun t _ ht => getD_in (by simpa using ht) (getD_replicate_false _ _)⟩
  have H := headQ_lex (md := .any) (g := l.toArray.size - n) hsel hs hc hn (l.take n) 0 _ a (fun j hj => by
    rw [htl] at hj
    simp [hj]) (by simpa using htl) inv0 (by rw [htl]; exact hlex) h
  refine wp_region_any hm ?_
  have := headQ_any (Q := Q) (g := l.toArray.size - n) (fun listed a' w' hw' hL => by
    have := wpAny_of_seq (md := .any) (Q' := Q) (l.drop n) n listed a' w' (fun j => by simp [List.getElem?_drop]) (by rw [hdl]; exact hL.1) (hL.2 w' hw')
    rwa [hdl] at this) _ _ _ _ hC H
  rw [htl, show n + (l.toArray.size - n) = l.toArray.size from by omega] at this
  exact this

/-- the same, at the class 'all that was there is as it was' -/
theorem wp_region_below_tail {id : Nat} {Q : Exit → Act → World → Prop} {a : Act} {w : World} {l : List Oper} (n : Nat) (hm : P.follows .mixedOrders = true) (hB : Region.lexTailB .any l.toArray n = true)
    (h : wpQuiet P l.toArray (fun w' => ∃ p : Regrown, w' = grow (redrawn w p.d) p.os) (fun a' => ∀ w', (∃ p : Regrown, w' = grow (redrawn w p.d) p.os) → wpList P l.toArray Q (l.drop n) a' w') (l.take n) a) : (Code.region id l.toArray true).wp P Q a w :=
  wp_region_quiet_tail (C := fun w' => ∃ p : Regrown, w' = grow (redrawn w p.d) p.os) n hm hB ⟨⟨w.drawn + 1, #[]⟩, by rw [grow_empty]; rfl⟩ h

theorem wpQuiet_imp {Q Q' : Act → Prop} (h : ∀ a, Q a → Q' a) (l : List Oper) : ∀ a, wpQuiet P ops C Q l a → wpQuiet P ops C Q' l a := by
  induction l with
  | nil => exact h
  | cons o l ih =>
    intro a hq0
    have hq : if Region.wanted o (yielded ops a.tmps) then o.quiet P a C (wpQuiet P ops C Q l) else wpQuiet P ops C Q l (a.put o.dst undef) := hq0
    show if Region.wanted o (yielded ops a.tmps) then o.quiet P a C (wpQuiet P ops C Q' l) else wpQuiet P ops C Q' l (a.put o.dst undef)
    split
    · rename_i hw; rw [if_pos hw] at hq; exact Oper.quiet_mono ih hq
    · rename_i hw; rw [if_neg hw] at hq; exact ih _ hq
theorem below_of_class {w w' : World} (h : ∃ p : Regrown, w' = grow (redrawn w p.d) p.os) : Below w.heap.size w w' := by
  obtain ⟨p, rfl⟩ := h
  exact below_regrown _ _ _
theorem wp_region_qb {id : Nat} {Q : Exit → Act → World → Prop} {a : Act} {w : World} {l : List Oper} (hm : P.follows .mixedOrders = true) (hB : Region.lexB .any l.toArray = true)
    (h : wpQuiet P l.toArray (fun w' => ∃ p : Regrown, w' = grow (redrawn w p.d) p.os) (fun a' => ∀ w', Below w.heap.size w w' → Q .normal a' w') l a) : (Code.region id l.toArray true).wp P Q a w :=
  wp_region_quiet_below hm hB (wpQuiet_imp (fun _ hq w' hw' => hq w' (below_of_class hw')) _ _ h)
theorem wp_region_qb_tail {id : Nat} {Q : Exit → Act → World → Prop} {a : Act} {w : World} {l : List Oper} (n : Nat) (hm : P.follows .mixedOrders = true) (hB : Region.lexTailB .any l.toArray n = true)
    (h : wpQuiet P l.toArray (fun w' => ∃ p : Regrown, w' = grow (redrawn w p.d) p.os) (fun a' => ∀ w', Below w.heap.size w w' → wpList P l.toArray Q (l.drop n) a' w') (l.take n) a) : (Code.region id l.toArray true).wp P Q a w :=
  wp_region_below_tail n hm hB (wpQuiet_imp (fun _ hq w' hw' => hq w' (below_of_class hw')) _ _ h)
end
theorem bot {w W W' : World} (h : Below w.heap.size w W) (h' : Below W.heap.size W W') : Below w.heap.size w W' := h.trans (h'.mono h.size)
theorem bal {w W : World} (h : Below w.heap.size w W) (o : Obj) : Below w.heap.size w (W.alloc o) := h.alloc h.size o
theorem bnew {w W' : World} {o : Obj} (h : Below (w.alloc o).heap.size (w.alloc o) W') : Below w.heap.size w W' := bot (bal (Below.refl _ _) o) (h.mono (Nat.le_refl _))
end Go.Proofs.YthbnmehbhpakaaaGreatDoor
namespace Go.Proofs.YthbnmehbhpakaaaGreatDoor
open Go.RowKit Go.ChangeShapes Go.WideShapes Go.ChangeAt
set_option linter.unusedVariables false
set_option linter.unusedSimpArgs false

section
variable {P : Program} {t e : TypeId} {α : Type} {r : Rp α} {sz : α → Prop}

theorem bounds_i64 {x : Int} (h : (Lit.int .i64 x).wf = true) : I64 x := by
  have : -9223372036854775808 ≤ x ∧ x ≤ 9223372036854775807 := by simpa [Lit.wf, IntKind.min, IntKind.max, IntKind.signed, IntKind.bits] using h
  exact this

theorem trodAll_stays {H : Type} {enc : TypeId × Value → H} (hl : laidOutB P = true) {W W' : World} (hb : Below W.heap.size W W') {sp' : Nat → Bool} : ∀ {ts : List TypeId} {vs : List Value} {ds : List (DataW H)} {ps : List MemPlace},
    (∀ t ∈ ts, P.readableRec t = true ∧ t < P.types.size) → DataW.TrodAll enc P W 0 (fun _ => true) true ts vs ds ps → (∀ x ∈ ps, x.block < W.heap.size) → (∀ x ∈ ps, sp' x.block = true) → DataW.TrodAll enc P W' 0 sp' true ts vs ds ps := by
  intro ts
  induction ts with
  | nil => intro vs ds ps _ h _ _; obtain ⟨rfl, rfl, rfl⟩ := trodAll_nil h; exact trodAll_mk0
  | cons t ts ih =>
    intro vs ds ps hr h hlt hsp
    obtain ⟨v, vs', d, ds', p, q, rfl, rfl, rfl, h1, h2⟩ := trodAll_cons h
    obtain ⟨g1, g2⟩ := hr t (by simp)
    refine trodAll_cons_mk (WideElems.Trod_stays hl g1 g2 h1 (fun x hx => hb.same (hlt x (by simp [hx]))) (fun x hx => hsp x (by simp [hx]))) (ih (fun t' ht' => hr t' (by simp [ht'])) h2 (fun x hx => hlt x (by simp [hx])) (fun x hx => hsp x (by simp [hx])))

/-- the row's last step: a law that answered true, in a world that kept all that was there -/
theorem law_post {H : Type} {enc : TypeId × Value → H} {f : Func} {s : ChangeSpec} {W W' : World} {args : Array Value} {ds : List (DataW H)} {before : List MemPlace} {tb : TypeId}
    (hl : laidOutB P = true) (hvars : s.vars = []) (hW : DataW.Whole enc P f.params.toList s.vars false W args.toList ds [] before)
    (hrt : f.resultTypes = #[tb]) (htb : P.underlying tb = some .bool) (hres : (s.fn H (ds ++ [])).results = [.lit (.bool true)]) (hargs : (s.fn H (ds ++ [])).args = ds) (hvs : (s.fn H (ds ++ [])).vars = [])
    (hr : ∀ t ∈ f.params.toList, P.readableRec t = true ∧ t < P.types.size) (hb : Below W.heap.size W W') :
    s.post enc P f false true false false W args (.bool true) W' := by
  have hlt : ∀ p ∈ before, p.block < W.heap.size := fun p hp => hW.lt p hp
  have hold : ∀ p ∈ before, (fun b => decide (b < W.heap.size)) p.block = true := fun p hp => by simpa using hlt p hp
  have hW0 := hW
  obtain ⟨p, q, hA, hV, hbe, hz, hn⟩ := hW0
  rw [hvars] at hV
  have hbe' : before = p := by rw [hbe, (trodVars_none hV).2, List.append_nil]
  subst hbe'
  refine ⟨ds, [], before, [], before, [], hW, ?_, ?_, ?_, World.keptBut_mono (fun p hp => ⟨hp, ?_⟩) (hb.frame (fun x => x ∈ before)), fun h => by cases h⟩
  · rw [hres, hrt]; exact trodAll_mk1 (shut_bool htb true)
  · rw [hargs]; exact trodAll_stays hl hb hr hA hlt hold
  · rw [hvs, hvars]; exact rfl
  · exact Or.inr (by simpa using hp)
end
end Go.Proofs.YthbnmehbhpakaaaGreatDoor
/-
  What a call is handed, opened under a bound on its bulk: a reading as data whose measure is at most the reading's bulk.
-/
namespace Go.Proofs.YthbnmehbhpakaaaGreatDoor
open Go.RowKit Go.ChangeShapes Go.WideShapes Go.ChangeAt
set_option linter.unusedVariables false
set_option linter.unusedSimpArgs false

/-- whatever reads at type t reads as a datum of r whose measure is at most the reading's bulk -/
def OpensB {α : Type} (P : Program) (t : TypeId) (r : Rp α) (bk : α → Nat) : Prop :=
  ∀ (H : Type) (enc : TypeId × Value → H) (w : World) (base fuel : Nat) (cs : List Value) (x : DataW H × List MemPlace),
    DataW.trod enc P w base (fun _ => true) true fuel t cs = some x → ∃ y, r.holds w (fun b => b < w.heap.size) y cs ∧ bk y ≤ Rows.uptoBulk x.1

theorem bulk_pos {H : Type} (d : DataW H) : 1 ≤ Rows.uptoBulk d := by
  cases d with
  | lit l => cases l <;> simp [Rows.uptoBulk]
  | nil => simp [Rows.uptoBulk]
  | ptr d => simp [Rows.uptoBulk]
  | slice elems spare => simp [Rows.uptoBulk]
  | agg parts => simp [Rows.uptoBulk]
  | iface t d => simp [Rows.uptoBulk]
  | map entries => simp [Rows.uptoBulk]
  | held h => simp [Rows.uptoBulk]
theorem bulkAll_append {H : Type} (l r : List (DataW H)) : Rows.uptoBulkAll (l ++ r) = Rows.uptoBulkAll l + Rows.uptoBulkAll r := by
  induction l with
  | nil => simp [Rows.uptoBulkAll]
  | cons x l ih => simp only [List.cons_append, Rows.uptoBulkAll, ih]; omega

section
variable {P : Program} {t e : TypeId} {α : Type} {r : Rp α} {bk : α → Nat}

theorem opensB_int (ht : P.underlying t = some (.int .i64)) : OpensB P t rInt (fun _ => 1) := by
  intro H enc w base fuel cs x h
  obtain ⟨n, rfl, _, hw⟩ := DataW.trod_int ht h
  exact ⟨n, ⟨rfl, bounds_i64 hw⟩, bulk_pos _⟩
theorem opensB_bool (ht : P.underlying t = some .bool) : OpensB P t rBool (fun _ => 1) := by
  intro H enc w base fuel cs x h
  obtain ⟨b, rfl, _⟩ := DataW.trod_bool ht h
  exact ⟨b, rfl, bulk_pos _⟩
theorem opensB_str (ht : P.underlying t = some .string) : OpensB P t rStr (fun s => s.size + 1) := by
  intro H enc w base fuel cs x h
  obtain ⟨s, rfl, rfl, hs⟩ := DataW.trod_string ht h
  exact ⟨s, ⟨rfl, hs⟩, by simp [Rows.uptoBulk]⟩

/-- the measure of a list -/
def bkL (bk : α → Nat) : List α → Nat
  | [] => 1
  | x :: l => bk x + bkL bk l
theorem bkL_mem {l : List α} {x : α} (h : x ∈ l) : bk x ≤ bkL bk l := by
  induction l with
  | nil => cases h
  | cons y l ih =>
    simp only [bkL]
    rcases List.mem_cons.1 h with rfl | h
    · omega
    · have := ih h; omega
theorem bkL_len {l : List α} (h1 : ∀ x, 1 ≤ bk x) : l.length + 1 ≤ bkL bk l := by
  induction l with
  | nil => exact Nat.le_refl _
  | cons y l ih => simp only [bkL, List.length_cons]; have := h1 y; omega
theorem bkL_append (l k : List α) : bkL bk (l ++ k) + 1 = bkL bk l + bkL bk k := by
  induction l with
  | nil => simp [bkL]; omega
  | cons y l ih => simp only [bkL, List.cons_append]; omega

theorem opensB_slice (ht : P.underlying t = some (.slice e)) (hC : P.cellsOf e = r.size) (hpos : 0 < r.size) (ho : OpensB P e r bk) : OpensB P t (rSlice r) (bkL bk) := by
  intro H enc w base fuel cs x h
  rcases Go.Deep.open_slice ht h with ⟨rfl, rfl⟩ | ⟨a, len, cap, m, n, D, Pl, rfl, hb, hl, hm, hmm, rfl, hi⟩
  · exact ⟨[], SlV.nil_ _ _ _, by simp [bkL, Rows.uptoBulk]⟩
  · have hmc : m = cap := by simpa using hmm
    subst hmc
    have hel : ∀ i, i < len → ∃ y cs', w.cells? base (a.add (i * r.size)) r.size = some cs' ∧ r.holds w (fun b => b < w.heap.size) y cs' ∧ bk y ≤ Rows.uptoBulk (D i) := by
      intro i hil
      obtain ⟨cs', h1, h2⟩ := hi i (by omega)
      rw [hC] at h1
      obtain ⟨y, h3, h4⟩ := ho H enc w base n cs' (D i, Pl i) h2
      exact ⟨y, cs', h1, h3, h4⟩
    have hlist : ∀ k, k ≤ len → ∃ l : List α, l.length = k ∧ bkL bk l ≤ Rows.uptoBulkAll ((List.range k).map D) + 1 ∧ ∀ (i : Nat) (y : α), l[i]? = some y → ∃ cs', w.cells? base (a.add (i * r.size)) r.size = some cs' ∧ r.holds w (fun b => b < w.heap.size) y cs' := by
      intro k
      induction k with
      | zero => intro _; exact ⟨[], rfl, by simp [bkL, Rows.uptoBulkAll], by simp⟩
      | succ k ih =>
        intro hk
        obtain ⟨l, h1, h2, h3⟩ := ih (by omega)
        obtain ⟨y, cs', g1, g2, g3⟩ := hel k (by omega)
        refine ⟨l ++ [y], by simp [h1], ?_, ?_⟩
        · have := bkL_append (bk := bk) l [y]
          rw [List.range_succ, List.map_append, bulkAll_append]
          simp only [bkL, List.map_cons, List.map_nil, Rows.uptoBulkAll] at *
          omega
        · intro i z hz'
          by_cases hi' : i < l.length
          · rw [List.getElem?_append_left hi'] at hz'
            exact h3 i z hz'
          · have : i = k := by
              have : i < (l ++ [y]).length := (List.getElem?_eq_some_iff.1 hz').1
              simp at this; omega
            subst this
            rw [List.getElem?_append_right (by omega), h1, Nat.sub_self] at hz'
            simp at hz'
            subst hz'
            exact ⟨cs', g1, g2⟩
    obtain ⟨l, h1, h2, h3⟩ := hlist len (Nat.le_refl _)
    refine ⟨l, ⟨some a, m, by rw [h1], by omega, hm, (fun h => by cases h), fun hn => ?_⟩, ?_⟩
    · obtain ⟨y0, hy0⟩ : ∃ y, l[0]? = some y := ⟨l[0], List.getElem?_eq_getElem hn⟩
      obtain ⟨cs0, g1, g2⟩ := h3 0 y0 hy0
      obtain ⟨_, hcl, hat⟩ := World.cells?_some g1
      rw [Nat.zero_mul, show a.add 0 = a from rfl] at hat
      have hc0 := hat 0 (by omega)
      rw [show a.add 0 = a from rfl] at hc0
      have hcs0 : cs0[0]? = some (cs0[0]'(by omega)) := List.getElem?_eq_getElem (by omega)
      rw [hcs0] at hc0
      have hsp : a.spot = none := by
        unfold World.cell? at hc0
        split at hc0
        · split at hc0
          · cases hc0
          · rename_i hh; simpa using hh
        · cases hc0
      obtain ⟨b, o, sp⟩ := a
      simp only at hsp
      subst hsp
      refine ⟨b, o, rfl, World.block_lt_of_cell? w _ hc0, World.block_lt_of_cell? w _ hc0, fun i y hy => ?_⟩
      obtain ⟨cs', g3, g4⟩ := h3 i y hy
      obtain ⟨_, hcl', hat'⟩ := World.cells?_some g3
      refine ⟨cs', g4, fun j u hu => ?_⟩
      have hj : j < r.size := by have := (List.getElem?_eq_some_iff.1 hu).1; omega
      have := hat' j hj
      rw [hu] at this
      have hadd : ∀ n k, ((⟨b, o, none⟩ : Addr).add n).add k = ⟨b, o + n + k, none⟩ := fun n k => by
        unfold Addr.add
        by_cases h1 : n = 0 <;> by_cases h2 : k = 0 <;> simp [h1, h2]
      rw [hadd] at this
      exact this
    · simp only [Rows.uptoBulk]
      omega

/-- an argument, opened -/
theorem opensB_arg (ho : OpensB P t r bk) {H : Type} {enc : TypeId × Value → H} {w : World} {v : Value} {d : DataW H} {ps : List MemPlace}
    (h : DataW.Trod enc P w 0 (fun _ => true) true t v d ps) : ∃ y, r.holds w (fun b => b < w.heap.size) y v.cells.toList ∧ bk y ≤ Rows.uptoBulk d := by
  obtain ⟨fuel, hf⟩ := h
  exact ho H enc w 0 fuel _ (d, ps) hf

theorem bulk_of {H : Type} {l : List (DataW H)} (hk : Rows.uptoSmall H l = true) : Rows.uptoBulkAll l ≤ 1048576 := of_decide_eq_true hk
end
end Go.Proofs.YthbnmehbhpakaaaGreatDoor
