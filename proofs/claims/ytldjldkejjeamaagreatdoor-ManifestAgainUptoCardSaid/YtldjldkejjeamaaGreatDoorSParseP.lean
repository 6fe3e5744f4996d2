/-
  A word of a range: a version with a sign; span.word, walked.
  A range's text is read: span.Parse, walked.
-/
import Derived.Test.YtldjldkejjeamaaGreatDoorVParse
import Derived.Test.YtldjldkejjeamaaGreatDoorScanName
import Derived.Test.YtldjldkejjeamaaGreatDoorSpanL
import Derived.Test.YtldjldkejjeamaaGreatDoorSplit
set_option autoImplicit false
set_option relaxedAutoImplicit false
set_option linter.unusedVariables false
set_option linter.unusedSimpArgs false
namespace Go.Proofs.YtldjldkejjeamaaGreatDoor
open Go.Rows Go.RowKit Go.Shelf Go.Sort

def signsL : List UInt8 := [60, 62, 61, 94, 126]
/-- a word without the signs ahead of it -/
def bareB (s : ByteArray) : ByteArray := ⟨(Lib.trimLeftS s.data.toList signsL).toArray⟩
def signB (s : ByteArray) : ByteArray := s.extract 0 (s.size - (bareB s).size)
/-- the runs of a sign before a version -/
def signRk (g : List UInt8) (v : Ver) : Option Rk :=
  if g = [] ∨ g = [61] then some (v.rank, v.rank)
  else if g = [60] then some (0, v.rank - 1)
  else if g = [60, 61] then some (0, v.rank)
  else if g = [62] then some (v.rank + 1, lastR)
  else if g = [62, 61] then some (v.rank, lastR)
  else if g = [126] then some (v.rank, v.rank - v.patch + 999)
  else if g = [94] then (if 0 < v.major then some (v.rank, v.rank - v.patch + 999 + (999 - v.minor) * 1000) else if 0 < v.minor then some (v.rank, v.rank - v.patch + 999) else some (v.rank, v.rank))
  else none
noncomputable def wordF (s : ByteArray) : Option Rk :=
  if s = ⟨#[42]⟩ then some (0, lastR) else match vparse (bareB s) with
    | none => none
    | some v => signRk (signB s).data.toList v
theorem bareB_size (s : ByteArray) : (bareB s).size ≤ s.size := by
  rw [size_data s]
  have : (Lib.trimLeftS s.data.toList signsL).length ≤ s.data.toList.length := (List.dropWhile_sublist _).length_le
  rw [size_data (bareB s)]
  exact this
/-- the last rows of a word's walk -/
theorem ret_rk {P : Program} {fn : Func} {R : Ending → World → Prop} {ty : TypeId} {d : TypeDesc} {p q : Tmp} {a : Act} {W : World} {g : Nat} {x y bv : Value} {t : TypeId} (hf : fn.results = #[.cell p ty, .tmp q]) (hd : a.defers = []) (h2 : a.tmps.getD p undef = .pointer (some ⟨g, 0, none⟩)) (h3 : a.tmps.getD q undef = bv)
    (hg : W.heap[g]? = some (.cells #[x, y] t (0, 0))) (hu : P.underlying ty = some d) (hdd : (match d with | .struct _ | .array _ _ => true | _ => false) = true) (hi : (P.info? ty).map (·.size) = some 2)
    (h : R (.returned (.tuple #[.agg #[x, y], bv])) W) : bodyPost P fn R Exit.ret a W :=
  bodyPost_ret (results_cell_slot hf a.tmps W g t #[x, y] (0, 0) d h2 hg hu hdd hi) hd (by rw [h3]; exact h)
theorem row2 {W : World} {b : Nat} {x y : Value} {t : TypeId} (h : W.heap[b]? = some (.cells #[x, y] t (0, 0))) : (W.cell? ⟨b, 0, none⟩ = some x ∧ W.cell? ⟨b, 1, none⟩ = some y) ∧ W.frozen? ⟨b, 0, none⟩ = false ∧ W.frozen? ⟨b, 1, none⟩ = false := by
  refine ⟨⟨cell_of_row _ _ 0 _ _ _ h, cell_of_row _ _ 1 _ _ _ h⟩, ?_, ?_⟩ <;> simp [World.frozen?, h]
theorem heap_set2 {W : World} {b : Nat} {x y : Value} {t : TypeId} (h : W.heap[b]? = some (.cells #[x, y] t (0, 0))) (u v : Value) : ((W.setCell ⟨b, 0, none⟩ u).setCell ⟨b, 1, none⟩ v).heap[b]? = some (.cells #[u, v] t (0, 0)) := by
  exact heap_set1 (o := 1) (heap_set1 (o := 0) h u) v

theorem trimLeft_signs (s : ByteArray) (w : World) :
    Calls Tryz.prog 71 #[.string s, .string ⟨#[60, 62, 61, 94, 126]⟩] w fun e w' => e = .returned (.string (bareB s)) ∧ Below w.heap.size w w' :=
  Any.strings_TrimLeft_laid Tryz.laysTrimLeft (by kernel_rfl) s ⟨#[60, 62, 61, 94, 126]⟩ w (by decide) (ascii_of_all (by decide))

/-- how a sign's bytes compare -/
def Cmp (g : List UInt8) (r : Nat) : Prop :=
  (g == []) = (r == 0) ∧ (g == [61]) = (r == 1) ∧ (g == [60]) = (r == 2) ∧ (g == [60, 61]) = (r == 3) ∧ (g == [62]) = (r == 4) ∧ (g == [62, 61]) = (r == 5) ∧ (g == [126]) = (r == 6) ∧ (g == [94]) = (r == 7)
theorem sign_cases (g : List UInt8) (v : Ver) :
    (Cmp g 0 ∧ signRk g v = some (v.rank, v.rank)) ∨ (Cmp g 1 ∧ signRk g v = some (v.rank, v.rank)) ∨ (Cmp g 2 ∧ signRk g v = some (0, v.rank - 1)) ∨ (Cmp g 3 ∧ signRk g v = some (0, v.rank)) ∨ (Cmp g 4 ∧ signRk g v = some (v.rank + 1, lastR)) ∨
    (Cmp g 5 ∧ signRk g v = some (v.rank, lastR)) ∨ (Cmp g 6 ∧ signRk g v = some (v.rank, v.rank - v.patch + 999)) ∨
    (Cmp g 7 ∧ signRk g v = (if 0 < v.major then some (v.rank, v.rank - v.patch + 999 + (999 - v.minor) * 1000) else if 0 < v.minor then some (v.rank, v.rank - v.patch + 999) else some (v.rank, v.rank))) ∨ (Cmp g 8 ∧ signRk g v = none) := by
  by_cases h0 : g = []
  · subst h0; exact .inl ⟨by unfold Cmp; decide, rfl⟩
  refine .inr ?_
  by_cases h1 : g = [61]
  · subst h1; exact .inl ⟨by unfold Cmp; decide, rfl⟩
  refine .inr ?_
  by_cases h2 : g = [60]
  · subst h2; exact .inl ⟨by unfold Cmp; decide, rfl⟩
  refine .inr ?_
  by_cases h3 : g = [60, 61]
  · subst h3; exact .inl ⟨by unfold Cmp; decide, rfl⟩
  refine .inr ?_
  by_cases h4 : g = [62]
  · subst h4; exact .inl ⟨by unfold Cmp; decide, rfl⟩
  refine .inr ?_
  by_cases h5 : g = [62, 61]
  · subst h5; exact .inl ⟨by unfold Cmp; decide, rfl⟩
  refine .inr ?_
  by_cases h6 : g = [126]
  · subst h6; exact .inl ⟨by unfold Cmp; decide, rfl⟩
  refine .inr ?_
  by_cases h7 : g = [94]
  · subst h7; exact .inl ⟨by unfold Cmp; decide, rfl⟩
  refine .inr ⟨⟨?_, ?_, ?_, ?_, ?_, ?_, ?_, ?_⟩, ?_⟩
  all_goals first | (show _ = false; rw [beq_eq_false_iff_ne]; assumption) | skip
  unfold signRk
  simp [h0, h1, h2, h3, h4, h5, h6, h7]

def rkV (x : Rk) : Value := .agg #[.int .i64 x.1, .int .i64 x.2]
set_option maxHeartbeats 4000000 in
set_option maxRecDepth 100000 in
theorem word_any (s : ByteArray) (w : World) (hv : Vok w) (hs : s.size ≤ 1000000) :
    Calls Tryz.prog 104 #[.string s] w fun e w' => e = .returned (.tuple #[rkV ((wordF s).getD (0, 0)), .bool (wordF s).isSome]) ∧ Below w.heap.size w w' := by
  have Hv := Lib.hid hv
  have Ht : Hid (∀ W, Calls Tryz.prog 71 #[.string s, .string ⟨#[60, 62, 61, 94, 126]⟩] W fun e w' => e = .returned (.string (bareB s)) ∧ Below W.heap.size W w') := fun W => trimLeft_signs s W
  have Hp : Hid (∀ W, Vok W → Calls Tryz.prog 48 #[.string (bareB s)] W fun e w' => e = .returned (.tuple #[verV ((vparse (bareB s)).getD ⟨0, 0, 0⟩), .bool (vparse (bareB s)).isSome]) ∧ Below W.heap.size W w') := fun W hW => versParse_any _ W hW (Nat.le_trans (bareB_size s) hs)
  have hbz := bareB_size s
  have hus : ∃ u : Ver, u = (vparse (bareB s)).getD ⟨0, 0, 0⟩ ∧ u.ok = true := by
    cases h : vparse (bareB s) with
    | none => exact ⟨_, rfl, rfl⟩
    | some v => exact ⟨_, rfl, (vparse_is h).1⟩
  obtain ⟨u, hu, huok⟩ := hus
  have Hr : Hid (∀ W, Calls Tryz.prog 115 #[.agg #[.int .i64 u.major, .int .i64 u.minor, .int .i64 u.patch]] W fun e w' => e = .returned (.tuple #[.int .i64 u.rank, .bool true]) ∧ Below W.heap.size W w') := fun W => by
    have := versRank_any u.major u.minor u.patch W
    rw [show verB u.major u.minor u.patch = true from huok] at this
    exact this
  rw [← hu] at Hp
  have HwN : Hid (s ≠ ⟨#[42]⟩ → vparse (bareB s) = none → wordF s = none) := fun h1 h2 => by unfold wordF; rw [if_neg h1, h2]
  have HwS : Hid (s ≠ ⟨#[42]⟩ → (vparse (bareB s)).isSome = true → wordF s = signRk (signB s).data.toList u) := fun h1 h2 => by
    unfold wordF; rw [if_neg h1]
    obtain ⟨v, hv⟩ := Option.isSome_iff_exists.1 h2
    rw [hv]
    rw [hv] at hu
    rw [hu]; rfl
  have HwA : Hid (s = ⟨#[42]⟩ → wordF s = some (0, lastR)) := fun h => by unfold wordF; rw [if_pos h]
  obtain ⟨⟨a0, a1⟩, ⟨b0, b1⟩, c0, c1⟩ := verB_iff.1 (show verB u.major u.minor u.patch = true from huok)
  have hrk : 0 ≤ u.rank ∧ u.rank ≤ 999999999 := by rw [u.rank_ok huok]; exact rank_bounds huok
  have Hsg := Lib.hid (sign_cases (signB s).data.toList u)
  have hgs : s.extract 0 (s.size - (bareB s).size) = signB s := rfl
  have Hgs := Lib.hid hgs
  clear hv hu huok hgs
  have hnil : (vparse (bareB s)).isSome = false → vparse (bareB s) = none := fun h => by simpa using h
  have Hnil := Lib.hid hnil
  clear hnil
  generalize (vparse (bareB s)).isSome = ok at *
  generalize bareB s = bs at *
  obtain ⟨M, m, p⟩ := u
  simp only at a0 a1 b0 b1 c0 c1 hrk Hsg Hr Hp HwS
  obtain ⟨n, hn⟩ : ∃ n, n = Ver.rank ⟨M, m, p⟩ := ⟨_, rfl⟩
  rw [← hn] at hrk Hsg Hr
  clear hn
  unfold verV at Hp
  simp only at Hp
  by_cases hst : s = ⟨#[42]⟩
  · have hb : (s.toList == [42]) = true := by rw [hst, Go.ByteArray.toList_eq]; rfl
    have Hw := Lib.hid (HwA.out hst)
    clear HwN HwS HwA hst Hsg
    go_enter Tryz.func104, Tryz.ntmps104
    go_wp2_with fail
    refine ret_rk rfl rfl rfl rfl (heap_alloc_new w _) Tryz.underlying131 rfl (by kernel_rfl) ⟨?_, ?_⟩
    · rw [Hw.out]; rfl
    · exact bal (Below.refl _ _) _
  · have hb : (s.toList == [42]) = false := by
      rw [beq_eq_false_iff_ne]; intro e; exact hst (bytes_ext (by rw [Go.ByteArray.toList_eq] at e; exact e))
    have HwN' := Lib.hid (HwN.out hst)
    have HwS' := Lib.hid (HwS.out hst)
    have hlen : IntKind.i64.wrap ((s.size : Int) - (bs.size : Int)) = ((s.size - bs.size : Nat) : Int) := by rw [IntWalk.i64_in _ ⟨by omega, by omega⟩]; omega
    have hle1 : s.size - bs.size ≤ s.size := by omega
    clear HwN HwS HwA hst
    go_enter Tryz.func104, Tryz.ntmps104
    go_wp2_with fail
    obtain ⟨w1, hw1⟩ : ∃ w1, w1 = w.alloc (.cells #[.int .i64 0, .int .i64 0] 131) := ⟨_, rfl⟩
    have HB1 : Hid (Below w.heap.size w w1) := by unfold Hid; rw [hw1]; exact bal (Below.refl _ _) _
    have hr1 : w1.heap[w.heap.size]? = some (.cells #[.int .i64 0, .int .i64 0] 131 (0, 0)) := by rw [hw1]; exact heap_alloc_new w _
    rw [← hw1]
    clear hw1
    refine (Ht.out _).mono ?_
    rintro e w2 ⟨rfl, hb2⟩
    have HB2 := Lib.hid (bot HB1.out hb2)
    have hz1 : w.heap.size < w1.heap.size := (Array.getElem?_eq_some_iff.1 hr1).1
    have hr2 := (hb2.block _ hz1).trans hr1
    clear hb2 hr1 hz1 HB1
    go_wp2_with fail
    refine (Hp.out _ (Hv.out.below HB2.out)).mono ?_
    rintro e w3 ⟨rfl, hb3⟩
    have HB3 := Lib.hid (bot HB2.out hb3)
    have hz2 : w.heap.size < w2.heap.size := (Array.getElem?_eq_some_iff.1 hr2).1
    have hr3 := (hb3.block _ hz2).trans hr2
    clear hb3 hr2 hz2 HB2
    go_wp2_with fail
    refine (Hr.out _).mono ?_
    rintro e w4 ⟨rfl, hb4⟩
    have HB4 := Lib.hid (bot HB3.out (bnew hb4))
    have hz3 : w.heap.size < w3.heap.size := (Array.getElem?_eq_some_iff.1 hr3).1
    have hr4 : w4.heap[w.heap.size]? = some (.cells #[.int .i64 0, .int .i64 0] 131 (0, 0)) := ((bnew hb4).block _ hz3).trans hr3
    have hn4 : w4.heap[w3.heap.size]? = some (.cells #[.int .i64 M, .int .i64 m, .int .i64 p] 23 (0, 0)) := (hb4.block _ (by simp)).trans (heap_alloc_new _ _)
    obtain ⟨⟨v0, v1, v2⟩, _⟩ := row3 hn4
    obtain ⟨⟨d0, d1⟩, f0, f1⟩ := row2 hr4
    have Hr4 := Lib.hid hr4
    clear hb4 hr3 hr4 hn4 hz3 HB3 Ht Hp Hr
    have e1 : IntKind.i64.wrap (n - p) = n - p := IntWalk.i64_in _ ⟨by omega, by omega⟩
    have e2 : IntKind.i64.wrap (n - p + 999) = n - p + 999 := IntWalk.i64_in _ ⟨by omega, by omega⟩
    have e3 : IntKind.i64.wrap (999 - m) = 999 - m := IntWalk.i64_in _ ⟨by omega, by omega⟩
    have e4 : IntKind.i64.wrap ((999 - m) * 1000) = (999 - m) * 1000 := IntWalk.i64_in _ ⟨by omega, by omega⟩
    have e5 : IntKind.i64.wrap (n - p + 999 + (999 - m) * 1000) = n - p + 999 + (999 - m) * 1000 := IntWalk.i64_in _ ⟨by omega, by omega⟩
    have e6 : IntKind.i64.wrap (n - 1) = n - 1 := IntWalk.i64_in _ ⟨by omega, by omega⟩
    have e7 : IntKind.i64.wrap (n + 1) = n + 1 := IntWalk.i64_in _ ⟨by omega, by omega⟩
    cases ok with
    | false =>
      have Hw := Lib.hid (HwN'.out (Hnil.out rfl))
      clear HwN' HwS' Hnil Hsg Hgs
      go_wp2_with fail
      refine ret_rk rfl rfl rfl rfl (heap_set2 Hr4.out _ _) Tryz.underlying131 rfl (by kernel_rfl) ⟨?_, ?_⟩
      · rw [Hw.out]; rfl
      · exact (HB4.out.setCell (Nat.le_refl _) _).setCell (Nat.le_refl _) _
    | true =>
      have Hw := Lib.hid (HwS'.out rfl)
      have hgs := Hgs.out
      clear HwN' HwS' Hnil
      have htl : ∀ l : List UInt8, ((signB s).toList == l) = ((signB s).data.toList == l) := fun l => by rw [Go.ByteArray.toList_eq]
      rcases Hsg.out with ⟨hc, hr⟩ | ⟨hc, hr⟩ | ⟨hc, hr⟩ | ⟨hc, hr⟩ | ⟨hc, hr⟩ | ⟨hc, hr⟩ | ⟨hc, hr⟩ | ⟨hc, hr⟩ | ⟨hc, hr⟩
      rotate_left 7
      · have hr' := hr
        rw [hr] at Hw
        clear hr hr'
        unfold Cmp at hc
        simp only [← htl] at hc
        simp only [Nat.reduceBEq] at hc
        obtain ⟨g0, g1, g2, g3, g4, g5, g6, g7⟩ := hc
        generalize signB s = sg at *
        clear htl Hsg Hgs
        by_cases hM : 0 < M
        · rw [if_pos hM] at Hw
          go_wp2_with fail
          refine ret_rk rfl rfl rfl rfl (heap_set2 Hr4.out _ _) Tryz.underlying131 rfl (by kernel_rfl) ⟨?_, ?_⟩
          · rw [Hw.out]; rfl
          · exact (HB4.out.setCell (Nat.le_refl _) _).setCell (Nat.le_refl _) _
        · rw [if_neg hM] at Hw
          by_cases hm : 0 < m
          · rw [if_pos hm] at Hw
            go_wp2_with fail
            refine ret_rk rfl rfl rfl rfl (heap_set2 Hr4.out _ _) Tryz.underlying131 rfl (by kernel_rfl) ⟨?_, ?_⟩
            · rw [Hw.out]; rfl
            · exact (HB4.out.setCell (Nat.le_refl _) _).setCell (Nat.le_refl _) _
          · rw [if_neg hm] at Hw
            go_wp2_with fail
            refine ret_rk rfl rfl rfl rfl (heap_set2 Hr4.out _ _) Tryz.underlying131 rfl (by kernel_rfl) ⟨?_, ?_⟩
            · rw [Hw.out]; rfl
            · exact (HB4.out.setCell (Nat.le_refl _) _).setCell (Nat.le_refl _) _
      all_goals
        rw [hr] at Hw
        unfold Cmp at hc
        simp only [← htl] at hc
        simp only [Nat.reduceBEq] at hc
        obtain ⟨g0, g1, g2, g3, g4, g5, g6, g7⟩ := hc
        generalize signB s = sg at *
        clear hr htl Hsg Hgs
        go_wp2_with fail
        refine ret_rk rfl rfl rfl rfl (heap_set2 Hr4.out _ _) Tryz.underlying131 rfl (by kernel_rfl) ⟨?_, ?_⟩
        · rw [Hw.out]; rfl
        · exact (HB4.out.setCell (Nat.le_refl _) _).setCell (Nat.le_refl _) _
end Go.Proofs.YtldjldkejjeamaaGreatDoor
set_option autoImplicit false
set_option relaxedAutoImplicit false
set_option linter.unusedVariables false
set_option linter.unusedSimpArgs false
namespace Go.Proofs.YtldjldkejjeamaaGreatDoor
open Go.Rows Go.RowKit Go.Shelf Go.Sort

attribute [local go_sem] Oper.semAt_some

def barsB : ByteArray := ⟨#[124, 124]⟩
def blankB : ByteArray := ⟨#[32]⟩
noncomputable def stepW (st : Option (Rk × Bool)) (s : ByteArray) : Option (Rk × Bool) := match st with
  | none => none
  | some (o, b) => if s = ⟨#[]⟩ then some (o, b) else match wordF s with
    | none => none
    | some x => some ((max o.1 x.1, min o.2 x.2), true)
noncomputable def innF (l : List ByteArray) : Option (Rk × Bool) := l.foldl stepW (some ((0, lastR), false))
noncomputable def stepA (st : Option (List Rk)) (a : ByteArray) : Option (List Rk) := match st with
  | none => none
  | some all => match innF (spl a blankB) with
    | none => none
    | some (o, b) => if b = false then none else if o.1 ≤ o.2 then some (all ++ [o]) else some all
noncomputable def altsF (l : List ByteArray) : Option (List Rk) := l.foldl stepA (some [])
/-- what a text is read as -/
noncomputable def parseS (t : ByteArray) : Option (List Rk) := if 4096 < t.size then none else altsF (spl t barsB)
noncomputable def parseQ (t : ByteArray) : List Spn × Int := match parseS t with
  | none => ([], 21)
  | some l => fitR (canon (Has l))
theorem fold_none {α β : Type} {f : Option α → β → Option α} (hf : ∀ x, f none x = none) : ∀ l : List β, l.foldl f none = none := by
  intro l
  induction l with
  | nil => rfl
  | cons x l ih => rw [List.foldl_cons, hf]; exact ih
theorem fold_dead {α β : Type} {f : Option α → β → Option α} (hf : ∀ x, f none x = none) {s : Option α} {l : List β} {k : Nat} (h : (l.take k).foldl f s = none) : l.foldl f s = none := by
  conv => lhs; rw [← List.take_append_drop k l]
  rw [List.foldl_append, h]; exact fold_none hf _
theorem fold_snoc {α β : Type} {f : α → β → α} {s : α} {l : List β} {k : Nat} (h : k < l.length) : (l.take (k + 1)).foldl f s = f ((l.take k).foldl f s) l[k] := by
  rw [List.take_succ_eq_append_getElem h, List.foldl_append]; rfl
theorem stepW_none (s : ByteArray) : stepW none s = none := rfl
theorem stepA_none (s : ByteArray) : stepA none s = none := rfl
theorem wordF_bounds {s : ByteArray} {x : Rk} (h : wordF s = some x) : (0 ≤ x.1 ∧ x.1 ≤ 1000000000) ∧ -1 ≤ x.2 ∧ x.2 ≤ lastR := by
  unfold wordF at h
  split at h
  · cases h; unfold lastR; exact ⟨⟨by decide, by decide⟩, by decide, by decide⟩
  · split at h
    · cases h
    · rename_i v hv
      obtain ⟨hok, _⟩ := vparse_is hv
      have hr : v.rank = rankI v.major v.minor v.patch := v.rank_ok hok
      obtain ⟨⟨a0, a1⟩, ⟨b0, b1⟩, c0, c1⟩ := verB_iff.1 (show verB v.major v.minor v.patch = true from hok)
      unfold rankI at hr
      unfold lastR
      rcases sign_cases (signB s).data.toList v with ⟨_, hs⟩ | ⟨_, hs⟩ | ⟨_, hs⟩ | ⟨_, hs⟩ | ⟨_, hs⟩ | ⟨_, hs⟩ | ⟨_, hs⟩ | ⟨_, hs⟩ | ⟨_, hs⟩ <;> rw [hs] at h
      rotate_left 7
      · split at h
        · cases h; constructor <;> constructor <;> (simp only; omega)
        · split at h <;> (cases h; constructor <;> constructor <;> (simp only; omega))
      · cases h
      all_goals (cases h; constructor <;> constructor <;> (simp only [lastR]; omega))
theorem splitB_len (sep : ByteArray) : ∀ (k : Nat) (s : ByteArray), (Lib.splitB sep 0 k s).length ≤ k + 1 := by
  intro k
  induction k with
  | zero => intro s; rw [Lib.splitB_zero]; simp
  | succ k ih =>
    intro s
    rcases Lib.indexB_cases s sep with hi | ⟨i, hi, hir⟩
    · rw [Lib.splitB_miss _ _ _ _ hi]; simp
    · rw [Lib.splitB_hit _ _ _ _ _ hi, List.length_cons]; have := ih (s.extract (i + sep.size) s.size); omega
/-- what one alternative's words leave -/
theorem innF_bounds : ∀ (l : List ByteArray) {o : Rk} {b : Bool}, innF l = some (o, b) → (0 ≤ o.1 ∧ o.1 ≤ 1000000000) ∧ -1 ≤ o.2 ∧ o.2 ≤ lastR := by
  intro l
  suffices H : ∀ (l : List ByteArray) (o0 : Rk) (b0 : Bool), ((0 ≤ o0.1 ∧ o0.1 ≤ 1000000000) ∧ -1 ≤ o0.2 ∧ o0.2 ≤ lastR) → ∀ (o : Rk) (b : Bool), l.foldl stepW (some (o0, b0)) = some (o, b) → (0 ≤ o.1 ∧ o.1 ≤ 1000000000) ∧ -1 ≤ o.2 ∧ o.2 ≤ lastR from
    fun o b h => H l (0, lastR) false (by unfold lastR; decide) o b h
  intro l
  induction l with
  | nil => intro o0 b0 h0 o b h; cases h; exact h0
  | cons x l ih =>
    intro o0 b0 h0 o b h
    rw [List.foldl_cons] at h
    by_cases hx : x = ⟨#[]⟩
    · rw [show stepW (some (o0, b0)) x = some (o0, b0) by unfold stepW; simp only [if_pos hx]] at h
      exact ih o0 b0 h0 o b h
    · cases hw : wordF x with
      | none =>
        rw [show stepW (some (o0, b0)) x = none by unfold stepW; simp only [if_neg hx, hw], fold_none stepW_none] at h
        cases h
      | some y =>
        rw [show stepW (some (o0, b0)) x = some ((max o0.1 y.1, min o0.2 y.2), true) by unfold stepW; simp only [if_neg hx, hw]] at h
        refine ih _ _ ?_ o b h
        have := wordF_bounds hw
        simp only
        omega
theorem altsF_in0 (l : List ByteArray) {all : List Rk} (h : altsF l = some all) : In0 all ∧ all.length ≤ l.length := by
  suffices H : ∀ (l : List ByteArray) (a0 : List Rk), In0 a0 → ∀ all, l.foldl stepA (some a0) = some all → In0 all ∧ all.length ≤ a0.length + l.length by
    have := H l [] (fun x hx => by simp at hx) all h
    simpa using this
  intro l
  induction l with
  | nil => intro a0 h0 all h; cases h; exact ⟨h0, by simp⟩
  | cons x l ih =>
    intro a0 h0 all h
    rw [List.foldl_cons] at h
    unfold stepA at h
    simp only at h
    change l.foldl stepA _ = _ at h
    cases hi : innF (spl x blankB) with
    | none => simp only [hi] at h; rw [fold_none stepA_none] at h; cases h
    | some q =>
      obtain ⟨o, b⟩ := q
      simp only [hi] at h
      have hb := innF_bounds _ hi
      split at h
      · rw [fold_none stepA_none] at h; cases h
      · split at h
        · rename_i hle
          obtain ⟨q1, q2⟩ := ih _ (fun y hy => by
            rcases List.mem_append.1 hy with hy | hy
            · exact h0 y hy
            · simp at hy; subst hy; exact ⟨hb.1.1, hle, hb.2.2⟩) all h
          refine ⟨q1, ?_⟩
          rw [List.length_append] at q2
          simp only [List.length_cons, List.length_nil] at q2 ⊢
          omega
        · obtain ⟨q1, q2⟩ := ih _ h0 all h
          exact ⟨q1, by simp only [List.length_cons]; omega⟩
end Go.Proofs.YtldjldkejjeamaaGreatDoor
