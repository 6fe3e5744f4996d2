/-
  A scope in which the run jumps back to several labels: what holds at every jump to each of them, and a measure that every pass lowers.
  scan.Lines: a text as lines of words, gone through byte by byte by labels and gotos, walked. (Printed by gen_scan.py.)
-/
import Derived.ScopeJumps
import Derived.Test.YthbnmehbhpakaaaGreatDoorDi22
import Derived.WalkMore
set_option autoImplicit false
set_option relaxedAutoImplicit false
set_option linter.unusedVariables false
set_option linter.unusedSimpArgs false
namespace Go.Proofs.YthbnmehbhpakaaaGreatDoor
open Go

/-- as Q; by a goto to a label: what holds there -/
def jumpsTo (J : Nat → Act → World → Prop) (Q : Exit → Act → World → Prop) : Exit → Act → World → Prop
  | .goto l, a, w => J l a w
  | e, a, w => Q e a w
theorem wp_scope_labels {P : Program} {a : Act} {w : World} {Q : Exit → Act → World → Prop} {c : Code} (J : Nat → Act → World → Prop) (μ : Nat → Act → World → Nat)
    (first : c.wp P (jumpsTo J Q) a w)
    (pass : ∀ l a w, J l a w → ∃ rest, findLabel c l = some rest ∧ rest.wp P (jumpsTo (fun l' a' w' => J l' a' w' ∧ μ l' a' w' < μ l a w) Q) a w) : (Code.scope c).wp P Q a w := by
  intro b k cs
  have key : ∀ n l a w, μ l a w = n → J l a w → ∃ rest, gotoIn l (.inScope c :: k) = some (.code rest :: .inScope c :: k) ∧ ∃ e a' w', Q e a' w' ∧ Arrives P (lone (b.at a (.code rest :: .inScope c :: k)) cs w) b k cs e a' w' := by
    intro n
    induction n using Nat.strongRecOn with
    | _ n ih =>
      intro l a w hn hJ
      obtain ⟨rest, hf, hp⟩ := pass l a w hJ
      have hg : gotoIn l (.inScope c :: k) = some (.code rest :: .inScope c :: k) := by simp [gotoIn, hf]
      refine ⟨rest, hg, ?_⟩
      obtain ⟨e, a₁, w₁, hq, harr⟩ := hp b (.inScope c :: k) cs
      cases e with
      | normal => exact ⟨.normal, a₁, w₁, hq, Steps.trans harr (.one step_inScope)⟩
      | exit id => exact ⟨.exit id, a₁, w₁, hq, fun k' hk => harr k' (by simp [exitTo, hk])⟩
      | goto l' =>
        obtain ⟨hJ', hlt⟩ := hq
        obtain ⟨rest₂, hg₂, e₂, a₂, w₂, hq₂, harr₂⟩ := ih _ (by omega) l' a₁ w₁ rfl hJ'
        exact ⟨e₂, a₂, w₂, hq₂, .of_steps (harr _ hg₂) harr₂⟩
      | ret => exact ⟨_, a₁, w₁, hq, harr⟩
      | panic ch => exact ⟨_, a₁, w₁, hq, harr⟩
      | outgrown => exact ⟨_, a₁, w₁, hq, harr⟩
  obtain ⟨e, a₁, w₁, hq, harr⟩ := first b (.inScope c :: k) cs
  cases e with
  | normal => exact ⟨.normal, a₁, w₁, hq, .head step_scope (Steps.trans harr (.one step_inScope))⟩
  | exit id => exact ⟨.exit id, a₁, w₁, hq, fun k' hk => .head step_scope (harr k' (by simp [exitTo, hk]))⟩
  | goto l' =>
    obtain ⟨rest₂, hg₂, e₂, a₂, w₂, hq₂, harr₂⟩ := key _ l' a₁ w₁ rfl hq
    exact ⟨e₂, a₂, w₂, hq₂, .of_steps (.head step_scope (harr _ hg₂)) harr₂⟩
  | ret => exact ⟨_, a₁, w₁, hq, .of_steps (.one step_scope) harr⟩
  | panic ch => exact ⟨_, a₁, w₁, hq, .of_steps (.one step_scope) harr⟩
  | outgrown => exact ⟨_, a₁, w₁, hq, .of_steps (.one step_scope) harr⟩
end Go.Proofs.YthbnmehbhpakaaaGreatDoor
set_option autoImplicit false
set_option relaxedAutoImplicit false
set_option linter.unusedVariables false
set_option linter.unusedSimpArgs false
namespace Go.Proofs.YthbnmehbhpakaaaGreatDoor
open Go.Rows Go.RowKit Go.Shelf Go.Sort

/-- the lines that are done, and the words of the line that is being read -/
def WordsAt (w0 W : World) (v7 v8 : Value) (done : List (List (List UInt8))) (ws : List (List UInt8)) : Prop :=
  ∃ S, Own (rSlice rStr) W w0.heap.size 53 v7 (wordsM done) S ∧ Own rStr W w0.heap.size 9 v8 (ws.map mkB) (fun _ => False) ∧ (∀ b, S b → w0.heap.size ≤ b) ∧ (∀ g, v8.ownBlock = some g → v7.ownBlock ≠ some g ∧ ¬ S g) ∧ Below w0.heap.size w0 W
theorem WordsAt.none_ {w0 W : World} {v7 : Value} {done : List (List (List UInt8))} {S : Nat → Prop} (h1 : Own (rSlice rStr) W w0.heap.size 53 v7 (wordsM done) S) (h2 : ∀ b, S b → w0.heap.size ≤ b) (h3 : Below w0.heap.size w0 W) : WordsAt w0 W v7 (.slice none 0 0) done [] :=
  ⟨S, h1, Own.nil_ _ _ _ _ (fun b hb => hb.elim), h2, (fun g hg => by cases hg), h3⟩
theorem WordsAt.word {w0 W W' : World} {v7 v8 : Value} {done : List (List (List UInt8))} {ws : List (List UInt8)} {o : Obj} {g cap n : Nat} {x : ByteArray} {k : List UInt8} (hx : x = mkB k) (h : WordsAt w0 W v7 v8 done ws)
    (hown : Own rStr W' w0.heap.size 9 (.slice (some ⟨g, 0, none⟩) n cap) (ws.map mkB ++ [x]) (fun _ => False)) (hg : (W.alloc o).grownBy W' v8.ownBlock) (hat : v8.ownBlock = some g ∨ g = W.heap.size + 1) : WordsAt w0 W' v7 (.slice (some ⟨g, 0, none⟩) n cap) done (ws ++ [k]) := by
  obtain ⟨S, h1, h2, h3, h4, h5⟩ := h
  refine ⟨S, (h1.alloc o).grown hg ?_ ?_, by rw [List.map_append]; subst hx; exact hown, h3, ?_, (h5.alloc h5.size o).grown hg (by simp; have := h5.size; omega) (fun q hq => (h2.lt q hq).1)⟩
  · cases hv : v8.ownBlock with
    | none => cases v7.ownBlock <;> simp
    | some q => exact .inr fun e => (h4 q hv).1 e
  · intro b hb e
    exact (h4 b e.symm).2 hb
  · intro q hq
    simp only [Value.ownBlock, Option.some.injEq] at hq
    subst hq
    rcases hat with hat | hat
    · exact h4 g hat
    · refine ⟨fun e => ?_, fun hs => ?_⟩
      · have := (h1.lt g e).2; omega
      · have := (h1.1 g hs).1; omega
theorem Own.slvT {α : Type} {r : Rp α} {w : World} {base : Nat} {e : TypeId} {v : Value} {l : List α} {S : Nat → Prop} (h : Own r w base e v l S) : SlV r w (fun b => S b ∨ v.ownBlock = some b) l v := by
  obtain ⟨h0, xs, h1, h2⟩ := h
  have h1' := h1
  rcases h1.2 with ⟨rfl, hn⟩ | ⟨g, cap, cur, rfl, hb, hg, hnc, hcm, hsz, htake⟩
  · have : l = [] := List.eq_nil_of_length_eq_zero hn
    subst this
    exact SlV.nil_ _ _ _
  · refine ⟨some ⟨g, 0, none⟩, cap, rfl, hnc, hcm, (fun h => by cases h), fun _ => ⟨g, 0, rfl, .inr rfl, (Array.getElem?_eq_some_iff.1 hg).1, fun i x hx => ?_⟩⟩
    obtain ⟨cs, hc, hcell⟩ := h2.get i x hx
    refine ⟨cs, r.mono hc fun b hb _ => ⟨.inl hb, rfl⟩, fun j u hu => ?_⟩
    have h3 := h1'.cells (g := g) rfl _ u (hcell j u hu)
    have hadd : ∀ k, (⟨g, 0, none⟩ : Addr).add k = ⟨g, k, none⟩ := fun k => by unfold Addr.add; split <;> simp_all
    rw [hadd] at h3
    rw [Nat.zero_add]
    exact h3
theorem WordsAt.line {w0 W : World} {v7 v8 : Value} {done : List (List (List UInt8))} {ws : List (List UInt8)} (h : WordsAt w0 W v7 v8 done ws) : ∃ S, Own (rSlice rStr) W w0.heap.size 53 v7 (wordsM done) S ∧ SlV rStr W S (ws.map mkB) v8 ∧ (∀ b, S b → w0.heap.size ≤ b) ∧ Below w0.heap.size w0 W := by
  obtain ⟨S, h1, h2, h3, h4, h5⟩ := h
  refine ⟨fun b => S b ∨ v8.ownBlock = some b, h1.more ?_ (fun b hb => .inl hb), h2.slvT.more ?_, ?_, h5⟩
  · rintro b (hb | hb)
    · exact h1.1 b hb
    · exact ⟨(h2.lt b hb).2, (h4 b hb).1⟩
  · rintro b (hb | hb) _
    · exact hb.elim
    · exact .inr hb
  · rintro b (hb | hb)
    · exact h3 b hb
    · exact (h2.lt b hb).1
/-- what holds at each label: the line, the word, what is wrong, the letter -/
def ScanJ (t : ByteArray) (most : Nat) (w0 : World) (F : Option (List (List (List UInt8)))) (l : Nat) (a : Act) (W : World) : Prop :=
  ∃ (v7 v8 v9 : Value) (k : Nat) (u11 u12 u13 u14 u15 u16 u17 u18 u19 u20 u21 u22 u23 u24 u25 u26 u27 u28 u29 u30 u31 u32 u33 u34 u35 u36 u37 u38 u39 u40 u41 u42 u43 u44 u45 u46 u47 u48 u49 u50 u51 u52 u53 u54 u55 u56 u57 u58 u59 u60 u61 u62 u63 : Value), a = { tmps := #[.string t, .int .i64 most, undef, undef, .slice none 0 0, .int .i64 0, .int .i64 0, v7, v8, v9, .int .i64 k, u11, u12, u13, u14, u15, u16, u17, u18, u19, u20, u21, u22, u23, u24, u25, u26, u27, u28, u29, u30, u31, u32, u33, u34, u35, u36, u37, u38, u39, u40, u41, u42, u43, u44, u45, u46, u47, u48, u49, u50, u51, u52, u53, u54, u55, u56, u57, u58, u59, u60, u61, u62, u63], defers := [] } ∧ k ≤ t.size ∧
    ((l = 2 ∧ F = none ∧ (∃ A n c, v7 = .slice A n c ∧ n ≤ 9223372036854775807) ∧ Below w0.heap.size w0 W) ∨
     (l = 0 ∧ ∃ done S, F = (scanL (t.data.toList.drop k)).map (done ++ ·) ∧ done.length ≤ k ∧ Own (rSlice rStr) W w0.heap.size 53 v7 (wordsM done) S ∧ (∀ b, S b → w0.heap.size ≤ b) ∧ Below w0.heap.size w0 W) ∨
     (l = 1 ∧ ∃ done ws, F = (scanW ws [] (t.data.toList.drop k)).map (done ++ ·) ∧ done.length ≤ k ∧ ws.length ≤ k ∧ WordsAt w0 W v7 v8 done ws) ∨
     (l = 3 ∧ ∃ done ws, ∃ b : Nat, v9 = .int .i64 (b : Int) ∧ b ≤ k ∧ F = (scanW ws (cutL t.data.toList b k) (t.data.toList.drop k)).map (done ++ ·) ∧ done.length ≤ k ∧ ws.length ≤ b ∧ WordsAt w0 W v7 v8 done ws))
def scanM (t : ByteArray) (l : Nat) (a : Act) (_ : World) : Nat := if l = 2 then 0 else t.size + 1 - (intOf (a.tmps.getD 10 undef)).toNat

theorem vis_num {c : UInt8} : visB c = true ↔ (32 : Int) < (c.toNat : Int) ∧ (c.toNat : Int) < 127 := by
  unfold visB
  simp only [Bool.and_eq_true, decide_eq_true_eq]
  omega
theorem vis_not {c : UInt8} (h : visB c = false) : (¬ (32 : Int) < (c.toNat : Int)) ∨ ((32 : Int) < (c.toNat : Int) ∧ ¬ (c.toNat : Int) < 127) := by
  by_cases h1 : (32 : Int) < (c.toNat : Int)
  · refine .inr ⟨h1, fun h2 => ?_⟩
    rw [vis_num.2 ⟨h1, h2⟩] at h; cases h
  · exact .inl h1
theorem cutL_ne {s : ByteArray} {b k : Nat} (hb : b < k) (hk : k ≤ s.size) : cutL s.data.toList b k ≠ [] := fun e => by
  have := congrArg List.length e
  unfold cutL at this
  rw [List.length_drop, List.length_take, ← size_data] at this
  simp only [List.length_nil] at this
  omega
theorem words_bel {w0 W : World} {v7 v8 : Value} {done : List (List (List UInt8))} {ws : List (List UInt8)} (h : WordsAt w0 W v7 v8 done ws) : (∃ A n c, v7 = .slice A n c ∧ n ≤ 9223372036854775807) ∧ Below w0.heap.size w0 W := by
  obtain ⟨S, h1, _, _, _, h5⟩ := h
  obtain ⟨A, c, rfl, q1, q2⟩ := h1.slv.val
  unfold maxLen at q2
  exact ⟨⟨A, _, c, rfl, by omega⟩, h5⟩

theorem wp_at {P : Program} {c : Code} {Q : Exit → Act → World → Prop} {a a' : Act} {w : World} (h : c.wp P Q a' w) (e : a' = a) : c.wp P Q a w := e ▸ h
set_option maxHeartbeats 8000000 in
set_option maxRecDepth 100000 in
theorem scanLines_any (t : ByteArray) (most : Nat) (w : World) (hmm : most ≤ 1000000) (ht : t.size ≤ 4611686018427387904) :
    Calls Tryz.prog 91 #[.string t, .int .i64 most] w fun e w' => ∃ v, (∃ k : Int, e = .returned (.tuple #[v, .int .i64 (scanQ most t).2, .int .i64 k])) ∧ SlV (rSlice rStr) w' (fun b => w.heap.size ≤ b) (scanQ most t).1 v ∧ Below w.heap.size w w' := by
  by_cases hbig : most < t.size
  · have hq : Hid (scanQ most t = ([], 25)) := by unfold Hid scanQ; rw [if_pos hbig]
    have hI : (most : Int) < (t.size : Int) := by omega
    clear hbig
    go_enter Tryz.func91, Tryz.ntmps91
    go_wp2_with fail
    go_step3
    go_wp2_with fail
    try rw [Exit.noGoto_ret]
    go_ret3
    rw [hq.out]
    exact ⟨_, ⟨_, rfl⟩, SlV.nil_ _ _ _, Below.refl _ _⟩
  have hI : ¬ (most : Int) < (t.size : Int) := by omega
  have ht6 : t.size ≤ 1000000 := by omega
  obtain ⟨F, hF⟩ : ∃ F, F = linesF t.data.toList := ⟨_, rfl⟩
  have HqN : Hid (F = none → scanQ most t = ([], 22)) := fun h => by unfold scanQ linesB; rw [if_neg hbig, ← hF, h]; rfl
  have HqS : Hid (∀ l, F = some l → scanQ most t = (wordsM l, 0)) := fun l h => by unfold scanQ linesB; rw [if_neg hbig, ← hF, h]; rfl
  have HF0 : Hid (F = (scanL (t.data.toList.drop 0)).map ([] ++ ·)) := by unfold Hid; rw [hF, lines_scan, List.drop_zero]; cases scanL t.data.toList <;> rfl
  clear hF hbig
  go_enter Tryz.func91, Tryz.ntmps91
  go_wp2_with fail
  refine wp_scope_labels (ScanJ t most w F) (scanM t) ?first ?pass
  case first =>
    by_cases h0 : t.size = 0
    · have hF : F = some [] := by rw [HF0.out]; rw [List.drop_zero, (List.eq_nil_of_length_eq_zero (by rw [← size_data]; exact h0) : t.data.toList = [])]; rfl
      have hq := HqS.out _ hF
      have hkb : ((0 : Int) == (t.size : Int)) = true := by rw [h0]; rfl
      go_wp2_with fail
      go_step3
      go_wp2_with fail
      simp only [jumpsTo]
      go_ret3
      rw [hq]
      exact ⟨_, ⟨_, rfl⟩, SlV.nil_ _ _ _, Below.refl _ _⟩
    obtain ⟨done, hdone⟩ : ∃ d : List (List (List UInt8)), d = [] := ⟨_, rfl⟩
    obtain ⟨ws, hws⟩ : ∃ ws : List (List UInt8), ws = [] := ⟨_, rfl⟩
    have HW : Hid (WordsAt w w (.slice none 0 0) (.slice none 0 0) done ws) := by
      rw [hdone, hws]
      exact WordsAt.none_ (Own.nil_ _ _ _ _ (fun b (hb : False) => hb.elim)) (fun b hb => hb.elim) (Below.refl _ _)
    have HF1 : Hid (F = (scanL (t.data.toList.drop 0)).map (done ++ ·)) := by rw [hdone]; exact HF0
    go_wp2_with fail
    go_step3
    go_wp2_with fail
    go_step3
    go_wp2_with fail
    obtain ⟨k, hkz⟩ : ∃ k : Nat, k = 0 := ⟨_, rfl⟩
    refine wp_at (a' := { tmps := #[.string t, .int .i64 most, undef, undef, .slice none 0 0, .int .i64 0, .int .i64 0, .slice none 0 0, .slice none 0 0, .int .i64 k, .int .i64 k, undef, .string t, .int .i64 t.size, .int .i64 most, .bool (decide (most < t.size)), .int .i64 0, .string t, .int .i64 t.size, .bool (0 == (t.size : Int)), undef, .int .i64 0, undef, undef, undef, undef, undef, undef, undef, undef, undef, undef, undef, undef, undef, undef, undef, undef, undef, undef, undef, undef, undef, undef, undef, undef, undef, undef, undef, undef, undef, undef, undef, undef, undef, undef, undef, undef, undef, undef, undef, undef, undef, undef], defers := [] }) ?_ (by subst hkz; rfl)
    have hk : k ≤ t.size := by omega
    have hkn : k < t.size := by omega
    have hdl : done.length ≤ k := by rw [hdone]; exact Nat.zero_le _
    have hwl : ws.length ≤ k := by rw [hws]; exact Nat.zero_le _
    have Hm : Hid (F = (scanW ws (cutL t.data.toList k k) (t.data.toList.drop k)).map (done ++ ·)) := by
      unfold Hid; rw [HF1.out, cutL_self, hkz, hws]; unfold scanL
      rw [if_neg (by intro e; have := congrArg List.length e; rw [List.length_drop, ← size_data] at this; rw [List.length_nil] at this; omega)]
    clear hkz hdone hws
    go_step3
    have hlt : k < t.size := by omega
    have hkI : (k : Int) < (t.size : Int) := by omega
    have hkb : ((k : Int) == (t.size : Int)) = false := by rw [beq_eq_false_iff_ne]; omega
    have hk0 : (0 : Int) ≤ (k : Int) := by omega
    have hd := byte_at t k hlt
    by_cases hv : visB t[k] = true
    · obtain ⟨q1, q2⟩ := vis_num.1 hv
      have hF : F = (scanW ws (cutL t.data.toList k (k + 1)) (t.data.toList.drop (k + 1))).map (done ++ ·) := by rw [Hm.out, hd, scanW_vis hv, cutL_next (by omega) hlt]
      clear hd hv Hm
      go_wp2_with fail
      go_step3
      show ScanJ t most w F 3 _ _
      exact ⟨_, _, _, k + 1, _, _, _, _, _, _, _, _, _, _, _, _, _, _, _, _, _, _, _, _, _, _, _, _, _, _, _, _, _, _, _, _, _, _, _, _, _, _, _, _, _, _, _, _, _, _, _, _, _, _, _, _, _, rfl, by omega, .inr (.inr (.inr ⟨rfl, done, ws, k, rfl, by omega, hF, by omega, by omega, HW.out⟩))⟩
    have hv' : visB t[k] = false := by simpa using hv
    have hcs := vis_not hv'
    clear hv
    have hF : Hid (F = none) := by unfold Hid; rw [Hm.out, hd, scanW_bad hv' (.inl (cutL_self _ _))]; rfl
    obtain ⟨h7, hbw⟩ := words_bel HW.out
    clear hd Hm hv'
    rcases hcs with q1 | ⟨q1, q2⟩
    all_goals
      go_wp2_with fail
      go_step3
      show ScanJ t most w F 2 _ _
      exact ⟨_, _, _, k, _, _, _, _, _, _, _, _, _, _, _, _, _, _, _, _, _, _, _, _, _, _, _, _, _, _, _, _, _, _, _, _, _, _, _, _, _, _, _, _, _, _, _, _, _, _, _, _, _, _, _, _, _, rfl, by omega, .inl ⟨rfl, hF.out, h7, hbw⟩⟩
  case pass =>
    intro l a W hJ
    obtain ⟨v7, v8, v9, k, u11, u12, u13, u14, u15, u16, u17, u18, u19, u20, u21, u22, u23, u24, u25, u26, u27, u28, u29, u30, u31, u32, u33, u34, u35, u36, u37, u38, u39, u40, u41, u42, u43, u44, u45, u46, u47, u48, u49, u50, u51, u52, u53, u54, u55, u56, u57, u58, u59, u60, u61, u62, u63, rfl, hk, hor⟩ := hJ
    rcases hor with ⟨rfl, hFn, ⟨A, n, c, rfl, hn⟩, hbel⟩ | ⟨rfl, done, S, hFk, hdl, hown, hS, hbel⟩ | ⟨rfl, done, ws, hFk, hdl, hwl, hW⟩ | ⟨rfl, done, ws, b, rfl, hbk, hFk, hdl, hwl, hW⟩
    · refine ⟨_, rfl, ?_⟩
      have hq := HqN.out hFn
      have Hbel := Lib.hid hbel
      clear hbel
      go_wp2_with fail
      simp only [jumpsTo]
      go_ret3
      rw [hq]
      exact ⟨_, ⟨_, rfl⟩, SlV.nil_ _ _ _, Hbel.out⟩
    · refine ⟨_, rfl, ?_⟩
      by_cases hke : k = t.size
      · have hF : F = some done := by rw [hFk, hke, List.drop_eq_nil_of_le (by rw [← size_data]; omega)]; unfold scanL; rw [if_pos rfl]; simp
        have hq := HqS.out _ hF
        have hkb : ((k : Int) == (t.size : Int)) = true := by rw [hke]; simp
        have Hown := Lib.hid hown
        have HS := Lib.hid hS
        have Hbel := Lib.hid hbel
        clear hown hS hbel hF hFk hke
        go_wp2_with fail
        simp only [jumpsTo]
        go_ret3
        rw [hq]
        exact ⟨_, ⟨_, rfl⟩, Hown.out.slvT.more (fun b hb _ => hb.elim (HS.out b) fun h => (Hown.out.lt b h).1), Hbel.out⟩
      have hkn : k < t.size := by omega
      have hk00 : ((k : Int) == (t.size : Int)) = false := by rw [beq_eq_false_iff_ne]; omega
      have Hm : Hid (F = (scanW [] (cutL t.data.toList k k) (t.data.toList.drop k)).map (done ++ ·)) := by
        unfold Hid; rw [hFk, cutL_self]; unfold scanL
        rw [if_neg (by intro e; have := congrArg List.length e; rw [List.length_drop, ← size_data] at this; simp at this; omega)]
      have HW := Lib.hid (WordsAt.none_ hown hS hbel)
      obtain ⟨ws, hws⟩ : ∃ ws : List (List UInt8), ws = [] := ⟨_, rfl⟩
      rw [← hws] at Hm HW
      have hwl : ws.length ≤ k := by rw [hws]; exact Nat.zero_le _
      clear hws hown hS hbel hFk hke
      go_wp2_with fail
      go_step3
      go_wp2_with fail
      go_step3
      have hlt : k < t.size := by omega
      have hkI : (k : Int) < (t.size : Int) := by omega
      have hkb : ((k : Int) == (t.size : Int)) = false := by rw [beq_eq_false_iff_ne]; omega
      have hk0 : (0 : Int) ≤ (k : Int) := by omega
      have hd := byte_at t k hlt
      by_cases hv : visB t[k] = true
      · obtain ⟨q1, q2⟩ := vis_num.1 hv
        have hF : F = (scanW ws (cutL t.data.toList k (k + 1)) (t.data.toList.drop (k + 1))).map (done ++ ·) := by rw [Hm.out, hd, scanW_vis hv, cutL_next (by omega) hlt]
        clear hd hv Hm
        go_wp2_with fail
        go_step3
        show ScanJ t most w F 3 _ _ ∧ _
        refine ⟨?_, ?_⟩
        · exact ⟨_, _, _, k + 1, _, _, _, _, _, _, _, _, _, _, _, _, _, _, _, _, _, _, _, _, _, _, _, _, _, _, _, _, _, _, _, _, _, _, _, _, _, _, _, _, _, _, _, _, _, _, _, _, _, _, _, _, _, rfl, by omega, .inr (.inr (.inr ⟨rfl, done, ws, k, rfl, by omega, hF, by omega, by omega, HW.out⟩))⟩
        · simp [scanM, intOf]; omega
      have hv' : visB t[k] = false := by simpa using hv
      have hcs := vis_not hv'
      clear hv
      have hF : Hid (F = none) := by unfold Hid; rw [Hm.out, hd, scanW_bad hv' (.inl (cutL_self _ _))]; rfl
      obtain ⟨h7, hbw⟩ := words_bel HW.out
      clear hd Hm hv'
      rcases hcs with q1 | ⟨q1, q2⟩
      all_goals
        go_wp2_with fail
        go_step3
        show ScanJ t most w F 2 _ _ ∧ _
        refine ⟨?_, ?_⟩
        · exact ⟨_, _, _, k, _, _, _, _, _, _, _, _, _, _, _, _, _, _, _, _, _, _, _, _, _, _, _, _, _, _, _, _, _, _, _, _, _, _, _, _, _, _, _, _, _, _, _, _, _, _, _, _, _, _, _, _, _, rfl, by omega, .inl ⟨rfl, hF.out, h7, hbw⟩⟩
        · simp [scanM, intOf]; omega
    · refine ⟨_, rfl, ?_⟩
      have Hm : Hid (F = (scanW ws (cutL t.data.toList k k) (t.data.toList.drop k)).map (done ++ ·)) := by
        unfold Hid; rw [hFk, cutL_self]
      have HW := Lib.hid hW
      clear hW hFk
      go_wp2_with fail
      go_step3
      by_cases hlt : k < t.size
      case neg =>
        have hke : (k : Int) = (t.size : Int) := by omega
        have hkb : ((k : Int) == (t.size : Int)) = true := by simp [hke]
        have hF : Hid (F = none) := by unfold Hid; rw [Hm.out, List.drop_eq_nil_of_le (by rw [← size_data]; omega), scanW]; rfl
        obtain ⟨h7, hbw⟩ := words_bel HW.out
        go_wp2_with fail
        go_step3
        show ScanJ t most w F 2 _ _ ∧ _
        refine ⟨?_, ?_⟩
        · exact ⟨_, _, _, k, _, _, _, _, _, _, _, _, _, _, _, _, _, _, _, _, _, _, _, _, _, _, _, _, _, _, _, _, _, _, _, _, _, _, _, _, _, _, _, _, _, _, _, _, _, _, _, _, _, _, _, _, _, rfl, by omega, .inl ⟨rfl, hF.out, h7, hbw⟩⟩
        · simp [scanM, intOf]; omega
      have hkI : (k : Int) < (t.size : Int) := by omega
      have hkb : ((k : Int) == (t.size : Int)) = false := by rw [beq_eq_false_iff_ne]; omega
      have hk0 : (0 : Int) ≤ (k : Int) := by omega
      have hd := byte_at t k hlt
      by_cases hv : visB t[k] = true
      · obtain ⟨q1, q2⟩ := vis_num.1 hv
        have hF : F = (scanW ws (cutL t.data.toList k (k + 1)) (t.data.toList.drop (k + 1))).map (done ++ ·) := by rw [Hm.out, hd, scanW_vis hv, cutL_next (by omega) hlt]
        clear hd hv Hm
        go_wp2_with fail
        go_step3
        show ScanJ t most w F 3 _ _ ∧ _
        refine ⟨?_, ?_⟩
        · exact ⟨_, _, _, k + 1, _, _, _, _, _, _, _, _, _, _, _, _, _, _, _, _, _, _, _, _, _, _, _, _, _, _, _, _, _, _, _, _, _, _, _, _, _, _, _, _, _, _, _, _, _, _, _, _, _, _, _, _, _, rfl, by omega, .inr (.inr (.inr ⟨rfl, done, ws, k, rfl, by omega, hF, by omega, by omega, HW.out⟩))⟩
        · simp [scanM, intOf]; omega
      have hv' : visB t[k] = false := by simpa using hv
      have hcs := vis_not hv'
      clear hv
      have hF : Hid (F = none) := by unfold Hid; rw [Hm.out, hd, scanW_bad hv' (.inl (cutL_self _ _))]; rfl
      obtain ⟨h7, hbw⟩ := words_bel HW.out
      clear hd Hm hv'
      rcases hcs with q1 | ⟨q1, q2⟩
      all_goals
        go_wp2_with fail
        go_step3
        show ScanJ t most w F 2 _ _ ∧ _
        refine ⟨?_, ?_⟩
        · exact ⟨_, _, _, k, _, _, _, _, _, _, _, _, _, _, _, _, _, _, _, _, _, _, _, _, _, _, _, _, _, _, _, _, _, _, _, _, _, _, _, _, _, _, _, _, _, _, _, _, _, _, _, _, _, _, _, _, _, rfl, by omega, .inl ⟨rfl, hF.out, h7, hbw⟩⟩
        · simp [scanM, intOf]; omega
    · refine ⟨_, rfl, ?_⟩
      have Hm := Lib.hid hFk
      have HW := Lib.hid hW
      clear hW hFk
      by_cases hlt : k < t.size
      case neg =>
        have hke : (k : Int) = (t.size : Int) := by omega
        have hkb : ((k : Int) == (t.size : Int)) = true := by simp [hke]
        have hF : Hid (F = none) := by unfold Hid; rw [Hm.out, List.drop_eq_nil_of_le (by rw [← size_data]; omega), scanW]; rfl
        obtain ⟨h7, hbw⟩ := words_bel HW.out
        go_wp2_with fail
        go_step3
        show ScanJ t most w F 2 _ _ ∧ _
        refine ⟨?_, ?_⟩
        · exact ⟨_, _, _, k, _, _, _, _, _, _, _, _, _, _, _, _, _, _, _, _, _, _, _, _, _, _, _, _, _, _, _, _, _, _, _, _, _, _, _, _, _, _, _, _, _, _, _, _, _, _, _, _, _, _, _, _, _, rfl, by omega, .inl ⟨rfl, hF.out, h7, hbw⟩⟩
        · simp [scanM, intOf]; omega
      have hkI : (k : Int) < (t.size : Int) := by omega
      have hkb : ((k : Int) == (t.size : Int)) = false := by rw [beq_eq_false_iff_ne]; omega
      have hk0 : (0 : Int) ≤ (k : Int) := by omega
      have hd := byte_at t k hlt
      by_cases hv : visB t[k] = true
      · obtain ⟨q1, q2⟩ := vis_num.1 hv
        have hF : F = (scanW ws (cutL t.data.toList b (k + 1)) (t.data.toList.drop (k + 1))).map (done ++ ·) := by rw [Hm.out, hd, scanW_vis hv, cutL_next (by omega) hlt]
        clear hd hv Hm
        go_wp2_with fail
        go_step3
        show ScanJ t most w F 3 _ _ ∧ _
        refine ⟨?_, ?_⟩
        · exact ⟨_, _, _, k + 1, _, _, _, _, _, _, _, _, _, _, _, _, _, _, _, _, _, _, _, _, _, _, _, _, _, _, _, _, _, _, _, _, _, _, _, _, _, _, _, _, _, _, _, _, _, _, _, _, _, _, _, _, _, rfl, by omega, .inr (.inr (.inr ⟨rfl, done, ws, b, rfl, by omega, hF, by omega, by omega, HW.out⟩))⟩
        · simp [scanM, intOf]; omega
      have hv' : visB t[k] = false := by simpa using hv
      have hcs := vis_not hv'
      clear hv
      by_cases hkf : k = b
      · have hke : ((k : Int) == (b : Int)) = true := by rw [hkf]; simp
        have hF : Hid (F = none) := by unfold Hid; rw [Hm.out, hd, scanW_bad hv' (.inl (by rw [hkf]; exact cutL_self _ _))]; rfl
        obtain ⟨h7, hbw⟩ := words_bel HW.out
        clear hd Hm hv' hkf
        rcases hcs with q1 | ⟨q1, q2⟩
        all_goals
          go_wp2_with fail
          go_step3
          show ScanJ t most w F 2 _ _ ∧ _
          refine ⟨?_, ?_⟩
          · exact ⟨_, _, _, k, _, _, _, _, _, _, _, _, _, _, _, _, _, _, _, _, _, _, _, _, _, _, _, _, _, _, _, _, _, _, _, _, _, _, _, _, _, _, _, _, _, _, _, _, _, _, _, _, _, _, _, _, _, rfl, by omega, .inl ⟨rfl, hF.out, h7, hbw⟩⟩
          · simp [scanM, intOf]; omega
      have hke : ((k : Int) == (b : Int)) = false := by rw [beq_eq_false_iff_ne]; omega
      have hcur : cutL t.data.toList b k ≠ [] := cutL_ne (by omega) (by omega)
      have Hx := Lib.hid (cutL_extract (s := t) (b := b) (k := k) hk)
      have hbI : (b : Int) ≤ (k : Int) := by omega
      have hwx : IntKind.i64.wrap ((k : Int) + 1) = ((k + 1 : Nat) : Int) := by rw [IntWalk.i64_in _ ⟨by omega, by omega⟩]; omega
      have hwy : IntKind.i64.wrap (((k + 1 : Nat) : Int) - 1) = (k : Int) := by rw [IntWalk.i64_in _ ⟨by omega, by omega⟩]; omega
      have hxs : (t.extract b k).size ≤ maxLen := by rw [ByteArray.size_extract]; unfold maxLen; omega
      have Hxs := Lib.hid hxs
      clear hxs
      obtain ⟨S0, o1, o2, o3, o4, o5⟩ := HW.out
      have O2 := Lib.hid o2
      have hz5 := o5.size
      have Hwl : Hid ((ws.map mkB).length = ws.length) := List.length_map _
      clear o1 o2 o3 o4 o5
      have hsel : (t[k] = 32) ∨ (t[k] = 10) ∨ (t[k] ≠ 32 ∧ t[k] ≠ 10) := by
        by_cases e1 : t[k] = 32
        · exact .inl e1
        by_cases e2 : t[k] = 10
        · exact .inr (.inl e2)
        exact .inr (.inr ⟨e1, e2⟩)
      have Hsel := Lib.hid hsel
      clear hsel
      have Hm32 : Hid (t[k] = 32 → F = (scanW (ws ++ [cutL t.data.toList b k]) [] (t.data.toList.drop (k + 1))).map (done ++ ·)) := fun e => by rw [Hm.out, hd, e, scanW_word hcur]
      have Hm10 : Hid (t[k] = 10 → F = (scanL (t.data.toList.drop (k + 1))).map ((done ++ [ws ++ [cutL t.data.toList b k]]) ++ ·)) := fun e => by rw [Hm.out, hd, e, scanW_line hcur, Option.map_map]; congr 1; funext x; simp
      have HmN : Hid ((t[k] ≠ 32 ∧ t[k] ≠ 10) → F = none) := fun e => by rw [Hm.out, hd, scanW_bad hv' (.inr e)]; rfl
      have HW2 := HW
      clear hd Hm hcur hv'
      have Hcut := Lib.hid (rfl : cutL t.data.toList b k = cutL t.data.toList b k)
      rcases hcs with q1 | ⟨q1, q2⟩
      all_goals
        go_wp2_with (at_builtin; refine wpList_push (by rfl) _ _ _ (by rfl) elt_string Tryz.underlying53 (by rfl) (O2.out.alloc _) ⟨W.heap.size, 0, none⟩ 1 [.string (t.extract b k)] (t.extract b k) (by rfl) ⟨rfl, Hxs.out⟩ (news_of W #[.string (t.extract b k)] _) (by rw [Hwl.out]; unfold maxLen; omega) (by rw [Hwl.out]; omega) (by simp; omega) (W.heap.size + 1) (by simp) ?_)
        intro g5 cap5 w5 hown5 hgrow5 hat5 hg5
        have HW5 := Lib.hid (WordsAt.word Hx.out HW2.out hown5 hgrow5 hat5)
        clear hown5 hgrow5 hat5 O2
        generalize hcc : cutL t.data.toList b k = cw at *
        rcases Hsel.out with e | e | e
        · have c1 : ((t[k].toNat : Int) == 32) = true := by rw [e]; rfl
          have hF := Hm32.out e
          clear Hm32 Hm10 HmN e
          go_wp2_with fail
          go_step3
          show ScanJ t most w F 1 _ _ ∧ _
          refine ⟨?_, ?_⟩
          · exact ⟨_, _, _, k + 1, _, _, _, _, _, _, _, _, _, _, _, _, _, _, _, _, _, _, _, _, _, _, _, _, _, _, _, _, _, _, _, _, _, _, _, _, _, _, _, _, _, _, _, _, _, _, _, _, _, _, _, _, _, rfl, by omega, .inr (.inr (.inl ⟨rfl, done, ws ++ [cw], hF, by omega, by simp; omega, HW5.out⟩))⟩
          · simp [scanM, intOf]; omega
        · have c1 : ((t[k].toNat : Int) == 32) = false := by rw [e]; rfl
          have c2 : ((t[k].toNat : Int) == 10) = true := by rw [e]; rfl
          have hF := Hm10.out e
          clear Hm32 Hm10 HmN e
          obtain ⟨S1, p1, p2, p3, p4⟩ := HW5.out.line
          have P1 := Lib.hid p1
          have P2 := Lib.hid p2
          have P4 := Lib.hid p4
          have P3 := Lib.hid p3
          have hz6 := p4.size
          have Hdl : Hid ((wordsM done).length = done.length) := by unfold Hid wordsM; rw [List.length_map]
          have Hmp : Hid (wordsM (done ++ [ws ++ [cw]]) = wordsM done ++ [(ws ++ [cw]).map mkB]) := by unfold Hid wordsM; rw [List.map_append]; rfl
          clear p1 p2 p3 p4 HW5
          go_wp2_with (at_builtin; refine wpList_push (by rfl) _ _ _ (by rfl) elt_strs Tryz.underlying145 (by rfl) (P1.out.alloc _) ⟨w5.heap.size, 0, none⟩ 1 [.slice (some ⟨g5, 0, none⟩) (ws.length + 1) cap5] ((ws ++ [cw]).map mkB) (by rfl) (Rp.alloc P2.out _) (news_of w5 #[.slice (some ⟨g5, 0, none⟩) (ws.length + 1) cap5] _) (by rw [Hdl.out]; unfold maxLen; omega) (by rw [Hdl.out]; omega) (by simp; omega) (w5.heap.size + 1) (by simp) ?_)
          intro g6 cap6 w6 hown6 hgrow6 hat6 hg6
          have HB6 : Hid (Below w.heap.size w w6) := (P4.out.alloc hz6 _).grown hgrow6 (by simp; omega) (fun q hq => (P1.out.lt q hq).1)
          have Hown6 : Hid (Own (rSlice rStr) w6 w.heap.size 53 (.slice (some ⟨g6, 0, none⟩) ((wordsM done).length + 1) cap6) (wordsM (done ++ [ws ++ [cw]])) S1) := by unfold Hid; rw [Hmp.out, List.map_append]; exact hown6
          clear hown6 hgrow6 hat6 P1 P2 P4
          go_wp2_with fail
          go_step3
          show ScanJ t most w F 0 _ _ ∧ _
          refine ⟨?_, ?_⟩
          · exact ⟨_, _, _, k + 1, _, _, _, _, _, _, _, _, _, _, _, _, _, _, _, _, _, _, _, _, _, _, _, _, _, _, _, _, _, _, _, _, _, _, _, _, _, _, _, _, _, _, _, _, _, _, _, _, _, _, _, _, _, rfl, by omega, .inr (.inl ⟨rfl, done ++ [ws ++ [cw]], S1, hF, by simp; omega, Hown6.out, P3.out, HB6.out⟩)⟩
          · simp [scanM, intOf]; omega
        · have c1 : ((t[k].toNat : Int) == 32) = false := by rw [beq_eq_false_iff_ne]; intro h; exact e.1 (UInt8.toNat_inj.1 (by show t[k].toNat = 32; omega))
          have c2 : ((t[k].toNat : Int) == 10) = false := by rw [beq_eq_false_iff_ne]; intro h; exact e.2 (UInt8.toNat_inj.1 (by show t[k].toNat = 10; omega))
          have hq := HqN.out (HmN.out e)
          clear Hm32 Hm10 HmN e
          obtain ⟨⟨A7, n7, c7, h7, hn7⟩, hbw⟩ := words_bel HW5.out
          subst h7
          have Hbw := Lib.hid hbw
          clear hbw
          go_wp2_with fail
          go_step3
          go_wp2_with fail
          simp only [jumpsTo]
          go_ret3
          rw [hq]
          exact ⟨_, ⟨_, rfl⟩, SlV.nil_ _ _ _, Hbw.out⟩
end Go.Proofs.YthbnmehbhpakaaaGreatDoor
