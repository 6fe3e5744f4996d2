/-
  Ranges' texts read, in plain words: a word, a printed range, two texts in one.
-/
import Derived.Test.YtghihopmiagcpaaGreatDoorRefWP
import Derived.Test.YtghihopmiagcpaaGreatDoorFoldP
set_option autoImplicit false
set_option relaxedAutoImplicit false
set_option linter.unusedVariables false
set_option linter.unusedSimpArgs false
namespace Go.Proofs.YtghihopmiagcpaaGreatDoor

/-- the run, if it is one -/
def runL (x : Rk) : List Rk := if x.1 ≤ x.2 then [x] else []
theorem runL_yes {x : Rk} (h : x.1 ≤ x.2) : runL x = [x] := if_pos h
theorem runL_no {x : Rk} (h : ¬ x.1 ≤ x.2) : runL x = [] := if_neg h
theorem has_runL {x : Rk} {n : Int} : Has (runL x) n ↔ x.1 ≤ n ∧ n ≤ x.2 := by
  by_cases h : x.1 ≤ x.2
  · rw [runL_yes h, has_one]
  · rw [runL_no h]
    exact ⟨fun g => absurd g (has_nil n), fun g => absurd (Int.le_trans g.1 g.2) h⟩
theorem runL_in0 {x : Rk} (h0 : 0 ≤ x.1) (h1 : x.2 ≤ lastR) : In0 (runL x) := by
  intro y hy
  by_cases h : x.1 ≤ x.2
  · rw [runL_yes h] at hy; obtain rfl := List.mem_singleton.1 hy; exact ⟨h0, h, h1⟩
  · rw [runL_no h] at hy; cases hy
theorem runL_nrm {x : Rk} (h0 : 0 ≤ x.1) : Nrm 0 (runL x) := by
  by_cases h : x.1 ≤ x.2
  · rw [runL_yes h]; exact ⟨h0, h, trivial⟩
  · rw [runL_no h]; trivial
theorem runL_len (x : Rk) : (runL x).length ≤ 1 := by
  by_cases h : x.1 ≤ x.2
  · rw [runL_yes h]; exact Nat.le_refl _
  · rw [runL_no h]; exact Nat.zero_le _
/-- two runs' meeting, where all places are tried -/
theorem fold_runs {o z : Rk} (o0 : 0 ≤ o.1) (o1 : o.2 ≤ lastR) (z0 : 0 ≤ z.1) (z1 : z.2 ≤ lastR) : foldedF 109 (runL o) (runL z) = runL (max o.1 z.1, min o.2 z.2) := by
  refine (foldedF_one 109 (runL_in0 o0 o1) (runL_in0 z0 z1) (runL_nrm (x := (max o.1 z.1, min o.2 z.2)) (by simp only; omega)) fun n => ?_).symm
  rw [want_m, has_runL, has_runL, has_runL]
  simp only
  constructor
  · intro h; exact ⟨by omega, by omega, ⟨by omega, by omega⟩, by omega, by omega⟩
  · intro h; omega
theorem fold_all {all : List Rk} (h : In0 all) : foldedF 106 all [] = canon (Has all) := by
  have h0 : In0 [] := fun x hx => by cases hx
  rw [← joined_folded h h0, List.append_nil]

/-! ### words -/
noncomputable def innL (cs : List UInt8) : Option (Rk × Bool) := innF ((wrdL [] cs).map mkB)
theorem innL_spl (s : ByteArray) : innF (spl s blankB) = innL s.data.toList := by unfold innL; rw [spl_blank]
theorem stepW_empty (st : Option (Rk × Bool)) : stepW st (mkB []) = st := by
  cases st with
  | none => rfl
  | some q =>
    obtain ⟨o, b⟩ := q
    have e : stepW (some (o, b)) (mkB []) = if mkB [] = (⟨#[]⟩ : ByteArray) then some (o, b) else (match wordF (mkB []) with | none => none | some x => some ((max o.1 x.1, min o.2 x.2), true)) := rfl
    exact e.trans (if_pos rfl)
theorem stepW_word {o x : Rk} {b : Bool} {s : ByteArray} (h : wordF s = some x) : stepW (some (o, b)) s = some ((max o.1 x.1, min o.2 x.2), true) := by
  have hs : s ≠ ⟨#[]⟩ := by
    rintro rfl
    unfold wordF at h
    rw [if_neg (by decide)] at h
    have : vparse (bareB ⟨#[]⟩) = none := vparse_no fun v hv e => by
      have e1 := pAll_txt hv
      rw [← e, show pAll (bareB ⟨#[]⟩).data.toList = some ([], 0) from rfl] at e1
      cases e1
    rw [this] at h
    cases h
  show (if s = ⟨#[]⟩ then _ else match wordF s with | none => none | some x => some ((max o.1 x.1, min o.2 x.2), true)) = _
  rw [if_neg hs, h]
theorem innL_lead (cs : List UInt8) : innL (32 :: cs) = innL cs := by
  unfold innL innF
  rw [wrdL_blank, List.map_cons, List.foldl_cons, stepW_empty]
theorem innL_trail (cs : List UInt8) : innL (cs ++ [32]) = innL cs := by
  unfold innL innF
  rw [wrdL_append cs [] [], List.map_append, List.foldl_append]
  exact stepW_empty _
theorem innL_one {cs : List UInt8} (h : (32 : UInt8) ∉ cs) {x : Rk} (hw : wordF (mkB cs) = some x) : innL cs = some ((max 0 x.1, min lastR x.2), true) := by
  unfold innL innF
  rw [wrdL_last cs [] h]
  exact stepW_word hw
theorem innL_two {cs ds : List UInt8} (h : (32 : UInt8) ∉ cs) (g : (32 : UInt8) ∉ ds) {x y : Rk} (hx : wordF (mkB cs) = some x) (hy : wordF (mkB ds) = some y) : innL (cs ++ 32 :: ds) = some ((max (max 0 x.1) y.1, min (min lastR x.2) y.2), true) := by
  unfold innL innF
  rw [wrdL_part cs [] ds h, wrdL_last ds [] g]
  show stepW (stepW _ (mkB ([] ++ cs))) (mkB ([] ++ ds)) = _
  rw [List.nil_append, List.nil_append, stepW_word hx]
  exact stepW_word hy
theorem txt_bytes {v : Ver} (h : v.ok = true) : ∀ c ∈ v.txt.data.toList, c = 46 ∨ (48 ≤ c.toNat ∧ c.toNat ≤ 57) := by
  intro c hc
  obtain ⟨⟨a0, a1⟩, ⟨b0, b1⟩, c0, c1⟩ := verB_iff.1 (show verB v.major v.minor v.patch = true from h)
  have key : ∀ n : Int, 0 ≤ n → n ≤ 999 → c ∈ (itoaB n).data.toList → 48 ≤ c.toNat ∧ c.toNat ≤ 57 := fun n h0 h1 hm => by
    have := List.all_eq_true.1 (itoa_read h0 h1).2 c hm
    simpa using this
  rw [txtL_list h] at hc
  simp only [List.mem_append, List.mem_cons] at hc
  rcases hc with hc | hc | hc | hc | hc
  · exact .inr (key _ a0 a1 hc)
  · exact .inl hc
  · exact .inr (key _ b0 b1 hc)
  · exact .inl hc
  · exact .inr (key _ c0 c1 hc)
theorem txt_no {v : Ver} (h : v.ok = true) {c : UInt8} (hc : c ≠ 46) (hd : ¬ (48 ≤ c.toNat ∧ c.toNat ≤ 57)) : c ∉ v.txt.data.toList := fun hm => by
  rcases txt_bytes h c hm with e | e
  · exact hc e
  · exact hd e
theorem txt_nosign {v : Ver} (h : v.ok = true) {c : UInt8} (hm : c ∈ v.txt.data.toList) : signsL.contains c = false := by
  cases hs : signsL.contains c with
  | false => rfl
  | true =>
    rcases isSign_iff.1 hs with rfl | rfl | rfl | rfl | rfl <;> exact absurd hm (txt_no h (by decide) (by decide))
theorem dropWhile_all {p : UInt8 → Bool} : ∀ {g r : List UInt8}, (∀ c ∈ g, p c = true) → (∀ c ∈ r, p c = false) → (g ++ r).dropWhile p = r := by
  intro g
  induction g with
  | nil =>
    intro r _ h
    cases r with
    | nil => rfl
    | cons c r => rw [List.nil_append, List.dropWhile_cons, h c (by simp)]; rfl
  | cons c g ih =>
    intro r h1 h2
    rw [List.cons_append, List.dropWhile_cons, h1 c (by simp)]
    exact ih (fun d hd => h1 d (by simp [hd])) h2
/-- a sign and a version's text -/
theorem wordF_sign {g : List UInt8} {v : Ver} (hg : ∀ c ∈ g, signsL.contains c = true) (hv : v.ok = true) : wordF (mkB (g ++ v.txt.data.toList)) = signRk g v := by
  have hne : mkB (g ++ v.txt.data.toList) ≠ ⟨#[42]⟩ := fun e => by
    have e' : g ++ v.txt.data.toList = [42] := congrArg (·.data.toList) e
    have hm : (42 : UInt8) ∈ g ++ v.txt.data.toList := by rw [e']; simp
    rcases List.mem_append.1 hm with h | h
    · exact absurd (hg 42 h) (by decide)
    · exact txt_no hv (by decide) (by decide) h
  have hb : bareB (mkB (g ++ v.txt.data.toList)) = v.txt := by
    apply bytes_ext
    show (g ++ v.txt.data.toList).dropWhile (fun c => signsL.contains c) = _
    exact dropWhile_all hg fun c hc => txt_nosign hv hc
  have hs : (signB (mkB (g ++ v.txt.data.toList))).data.toList = g := by
    unfold signB
    rw [Lib.extract_from_zero, hb, size_data, size_data v.txt]
    show (g ++ v.txt.data.toList).take ((g ++ v.txt.data.toList).length - v.txt.data.toList.length) = g
    rw [List.length_append, Nat.add_sub_cancel, List.take_left]
  unfold wordF
  rw [if_neg hne, hb, hs, vparse_some hv rfl]
theorem sign_blank {g : List UInt8} {v : Ver} (hg : ∀ c ∈ g, signsL.contains c = true) (hv : v.ok = true) : (32 : UInt8) ∉ g ++ v.txt.data.toList ∧ (124 : UInt8) ∉ g ++ v.txt.data.toList := by
  constructor
  · intro h
    rcases List.mem_append.1 h with h | h
    · exact absurd (hg _ h) (by decide)
    · exact txt_no hv (by decide) (by decide) h
  · intro h
    rcases List.mem_append.1 h with h | h
    · exact absurd (hg _ h) (by decide)
    · exact txt_no hv (by decide) (by decide) h

/-! ### alternatives -/
noncomputable def altsL (t : List UInt8) : Option (List Rk) := altsF ((altL [] t).map mkB)
theorem parseS_list (t : ByteArray) : parseS t = if 4096 < t.size then none else altsL t.data.toList := by unfold parseS altsL; rw [spl_bars]
theorem stepA_part {all : List Rk} {o : Rk} {cs : List UInt8} (h : innL cs = some (o, true)) : stepA (some all) (mkB cs) = some (all ++ runL o) := by
  show (match innF (spl (mkB cs) blankB) with | none => none | some (o, b) => if b = false then none else if o.1 ≤ o.2 then some (all ++ [o]) else some all) = _
  rw [innL_spl, mkB_data, h]
  simp only [Bool.true_eq_false, if_false]
  by_cases hle : o.1 ≤ o.2
  · rw [if_pos hle, runL_yes hle]
  · rw [if_neg hle, runL_no hle, List.append_nil]
/-- a text of one word -/
theorem parseQ_word {cs : List UInt8} (hl : cs.length ≤ 4096) (hb : (32 : UInt8) ∉ cs) (hp : (124 : UInt8) ∉ cs) {x : Rk} (hw : wordF (mkB cs) = some x) : parseQ (mkB cs) = fitR (runL (max 0 x.1, min lastR x.2)) := by
  have hs : parseS (mkB cs) = some (runL (max 0 x.1, min lastR x.2)) := by
    rw [parseS_list, mkB_data, if_neg (by show ¬ 4096 < (mkB cs).size; rw [size_data, mkB_data]; omega)]
    unfold altsL altsF
    rw [altL_last cs [] hp]
    show stepA (some []) (mkB ([] ++ cs)) = _
    rw [List.nil_append, stepA_part (innL_one hb hw), List.nil_append]
  unfold parseQ
  rw [hs]
  simp only
  rw [canon_self (runL_nrm (by simp only; omega))]
/-- what stands for a span in a text -/
theorem spanText_read {s : Spn} (hlo : s.lo.ok = true) (hhi : s.hi.ok = true) (hle : s.lo.rank ≤ s.hi.rank) :
    (124 : UInt8) ∉ (spanText s).data.toList ∧ innL (spanText s).data.toList = some ((s.lo.rank, s.hi.rank), true) := by
  obtain ⟨l0, l1⟩ := ok_rank hlo
  obtain ⟨h0, h1⟩ := ok_rank hhi
  have key : ∀ (g : List UInt8) (v : Ver) (x : Rk), v.ok = true → (∀ c ∈ g, signsL.contains c = true) → signRk g v = some x → (124 : UInt8) ∉ g ++ v.txt.data.toList ∧ innL (g ++ v.txt.data.toList) = some ((max 0 x.1, min lastR x.2), true) := fun g v x hv hg hr => by
    obtain ⟨n1, n2⟩ := sign_blank hg hv
    exact ⟨n2, innL_one n1 ((wordF_sign hg hv).trans hr)⟩
  unfold spanText
  by_cases c1 : s.lo.rank = s.hi.rank
  · rw [if_pos c1]
    obtain ⟨k1, k2⟩ := key [] s.lo (s.lo.rank, s.lo.rank) hlo (fun c hc => by cases hc) rfl
    refine ⟨k1, k2.trans ?_⟩
    rw [← c1]
    simp only [Option.some.injEq, Prod.mk.injEq, and_true]
    omega
  · rw [if_neg c1]
    by_cases c2 : s.lo.rank = 0
    · rw [if_pos c2]
      by_cases c3 : s.hi.rank = 999999999
      · rw [if_pos c3, c2, c3]
        refine ⟨by decide, ?_⟩
        have e : innL starB.data.toList = some ((max 0 (0 : Int), min lastR lastR), true) := innL_one (x := (0, lastR)) (by decide) (if_pos rfl)
        rw [e]; rfl
      · rw [if_neg c3]
        obtain ⟨k1, k2⟩ := key [60, 61] s.hi (0, s.hi.rank) hhi (by decide) rfl
        have e : (leB ++ s.hi.text).data.toList = [60, 61] ++ s.hi.txt.data.toList := by simp [leB]; rfl
        rw [e]
        refine ⟨k1, k2.trans ?_⟩
        rw [c2]
        simp only [Option.some.injEq, Prod.mk.injEq, and_true]
        omega
    · rw [if_neg c2]
      by_cases c3 : s.hi.rank = 999999999
      · rw [if_pos c3]
        obtain ⟨k1, k2⟩ := key [62, 61] s.lo (s.lo.rank, lastR) hlo (by decide) rfl
        have e : (geB ++ s.lo.text).data.toList = [62, 61] ++ s.lo.txt.data.toList := by simp [geB]; rfl
        rw [e]
        refine ⟨k1, k2.trans ?_⟩
        rw [c3]
        simp only [Option.some.injEq, Prod.mk.injEq, and_true]
        unfold lastR at *
        omega
      · rw [if_neg c3]
        have e : (geB ++ s.lo.text ++ andB ++ s.hi.text).data.toList = ([62, 61] ++ s.lo.txt.data.toList) ++ 32 :: ([60, 61] ++ s.hi.txt.data.toList) := by
          rw [show s.lo.text = s.lo.txt from rfl, show s.hi.text = s.hi.txt from rfl]
          simp [geB, andB]
        rw [e]
        obtain ⟨n1, n2⟩ := sign_blank (g := [62, 61]) (by decide) hlo
        obtain ⟨m1, m2⟩ := sign_blank (g := [60, 61]) (by decide) hhi
        refine ⟨?_, (innL_two n1 m1 ((wordF_sign (by decide) hlo).trans (show signRk [62, 61] s.lo = some (s.lo.rank, lastR) from rfl)) ((wordF_sign (by decide) hhi).trans (show signRk [60, 61] s.hi = some (0, s.hi.rank) from rfl))).trans ?_⟩
        · intro h
          rcases List.mem_append.1 h with h | h
          · exact n2 h
          · rcases List.mem_cons.1 h with h | h
            · exact absurd h (by decide)
            · exact m2 h
        · simp only [Option.some.injEq, Prod.mk.injEq, and_true]
          unfold lastR at *
          omega
/-- a list's texts, read from where a blank may stand ahead -/
theorem join_read : ∀ (l : List Spn) (all : List Rk) (acc : List UInt8), (acc = [] ∨ acc = [32]) → l ≠ [] → (∀ s ∈ l, s.lo.ok = true ∧ s.hi.ok = true ∧ s.lo.rank ≤ s.hi.rank) →
    ((altL acc (Lib.join (l.map fun s => (spanText s).data.toList) [32, 124, 124, 32])).map mkB).foldl stepA (some all) = some (all ++ rks l) := by
  intro l
  induction l with
  | nil => intro all acc _ h; exact absurd rfl h
  | cons s l ih =>
    intro all acc hacc _ hok
    obtain ⟨o1, o2, o3⟩ := hok s (by simp)
    obtain ⟨r1, r2⟩ := spanText_read o1 o2 o3
    have hlead : ∀ cs, innL (acc ++ cs) = innL cs := fun cs => by
      rcases hacc with rfl | rfl
      · rfl
      · exact innL_lead cs
    have hrun : runL (s.lo.rank, s.hi.rank) = [(s.lo.rank, s.hi.rank)] := runL_yes o3
    rw [List.map_cons, Lib.join_cons]
    cases l with
    | nil =>
      rw [List.map_nil]
      show ((altL acc ((spanText s).data.toList ++ [])).map mkB).foldl stepA (some all) = _
      rw [List.append_nil, altL_last _ _ r1]
      show stepA (some all) (mkB (acc ++ (spanText s).data.toList)) = _
      rw [stepA_part ((hlead _).trans r2), hrun]
      rfl
    | cons t l =>
      have e : (spanText s).data.toList ++ Lib.joinTail [32, 124, 124, 32] ((t :: l).map fun s => (spanText s).data.toList) =
          ((spanText s).data.toList ++ [32]) ++ 124 :: 124 :: (32 :: Lib.join ((t :: l).map fun s => (spanText s).data.toList) [32, 124, 124, 32]) := by
        rw [List.map_cons, Lib.join_cons]
        simp [Lib.joinTail]
      rw [e, altL_part _ _ _ (by simp only [List.mem_append, List.mem_singleton, not_or]; exact ⟨r1, by decide⟩), altL_other (by decide), List.map_cons, List.foldl_cons]
      rw [stepA_part (o := (s.lo.rank, s.hi.rank)) (by rw [← List.append_assoc, innL_trail, hlead]; exact r2), hrun]
      rw [ih (all ++ [(s.lo.rank, s.hi.rank)]) ([] ++ [32]) (.inr rfl) (by simp) (fun x hx => hok x (by simp [hx]))]
      unfold rks
      rw [List.map_cons, List.append_assoc]
      rfl
/-- a range's text is read as that range -/
theorem parse_text {l : List Spn} (h : spansB l = true) : parseQ (spansText l) = (l, 0) := by
  have hsz := spansText_le l
  have hs : parseS (spansText l) = some (rks l) := by
    rw [parseS_list, if_neg (by omega)]
    unfold spansText
    rw [if_pos h]
    by_cases h0 : l = []
    · subst h0
      rw [if_pos rfl]
      unfold altsL altsF
      have e1 : (altL [] noneB.data.toList) = [noneB.data.toList] := altL_last _ [] (by decide)
      rw [e1]
      show stepA (some []) (mkB noneB.data.toList) = _
      have e2 : noneB.data.toList = [60] ++ (⟨0, 0, 0⟩ : Ver).txt.data.toList := by decide +kernel
      have e3 : wordF (mkB noneB.data.toList) = some (0, -1) := by
        rw [e2, wordF_sign (v := ⟨0, 0, 0⟩) (by decide) (by decide)]
        decide
      rw [stepA_part (innL_one (by decide) e3)]
      decide
    · rw [if_neg h0]
      obtain ⟨_, h2, h3⟩ := spansB_ok h
      have hin := spans_in0 h
      unfold altsL altsF
      have := join_read l [] [] (.inl rfl) h0 fun s hs => ⟨(h2 s hs).1, (h2 s hs).2, (hin _ (List.mem_map.2 ⟨s, hs, rfl⟩)).2.1⟩
      rw [List.nil_append] at this
      rw [← this]
      unfold joinB
      rw [List.map_map]
      rfl
  unfold parseQ
  rw [hs]
  simp only
  rw [canon_self (spans_nrm h), fitR_rks h]

/-! ### two texts in one -/
theorem word_nobar {s : ByteArray} {x : Rk} (h : wordF s = some x) : (124 : UInt8) ∉ s.data.toList := by
  unfold wordF at h
  by_cases h0 : s = ⟨#[42]⟩
  · subst h0; decide
  · rw [if_neg h0] at h
    obtain ⟨g, e1, _, e3, _⟩ := bare_drop s
    cases hv : vparse (bareB s) with
    | none => rw [hv] at h; cases h
    | some v =>
      obtain ⟨hok, ht⟩ := vparse_is hv
      intro hm
      rw [e1, ht] at hm
      exact (sign_blank e3 hok).2 hm
theorem stepW_all : ∀ (l : List ByteArray) (st : Option (Rk × Bool)) (q : Rk × Bool), l.foldl stepW st = some q → ∀ w ∈ l, (124 : UInt8) ∉ w.data.toList := by
  intro l
  induction l with
  | nil => intro _ _ _ w hw; cases hw
  | cons s l ih =>
    intro st q h w hw
    rw [List.foldl_cons] at h
    rcases List.mem_cons.1 hw with rfl | hw
    · cases st with
      | none => rw [stepW_none, fold_none stepW_none] at h; cases h
      | some p =>
        obtain ⟨o, b⟩ := p
        by_cases he : w = ⟨#[]⟩
        · subst he; decide
        · cases hx : wordF w with
          | none =>
            have e : stepW (some (o, b)) w = none := by unfold stepW; simp only [if_neg he, hx]
            rw [e, fold_none stepW_none] at h; cases h
          | some x => exact word_nobar hx
    · exact ih _ q h w hw
theorem wrdL_mem : ∀ (s acc : List UInt8) (c : UInt8), c ∈ acc ++ s → c = 32 ∨ ∃ w ∈ wrdL acc s, c ∈ w := by
  intro s
  induction s with
  | nil => intro acc c h; rw [List.append_nil] at h; exact .inr ⟨acc, by rw [wrdL]; simp, h⟩
  | cons d s ih =>
    intro acc c h
    by_cases hd : d = 32
    · subst hd
      rw [wrdL_blank]
      rcases List.mem_append.1 h with h | h
      · exact .inr ⟨acc, by simp, h⟩
      · rcases List.mem_cons.1 h with h | h
        · exact .inl h
        · rcases ih [] c (by rw [List.nil_append]; exact h) with e | ⟨w, hw, hc⟩
          · exact .inl e
          · exact .inr ⟨w, by simp [hw], hc⟩
    · rw [wrdL_next hd]
      exact ih (acc ++ [d]) c (by rw [List.append_assoc]; exact h)
theorem innL_nobar {cs : List UInt8} {q : Rk × Bool} (h : innL cs = some q) : (124 : UInt8) ∉ cs := fun hm => by
  rcases wrdL_mem cs [] 124 (by rw [List.nil_append]; exact hm) with e | ⟨w, hw, hc⟩
  · exact absurd e (by decide)
  · exact stepW_all _ _ q h (mkB w) (List.mem_map.2 ⟨w, hw, rfl⟩) hc
theorem stepA_some {st : Option (List Rk)} {cs : List UInt8} {r : List Rk} (h : stepA st (mkB cs) = some r) : ∃ all o, st = some all ∧ innL cs = some (o, true) ∧ r = all ++ runL o := by
  cases st with
  | none => cases h
  | some all =>
    have e : stepA (some all) (mkB cs) = match innL cs with | none => none | some (o, b) => if b = false then none else if o.1 ≤ o.2 then some (all ++ [o]) else some all := by
      rw [← mkB_data cs, ← innL_spl]; rfl
    cases hi : innL cs with
    | none => rw [e, hi] at h; cases h
    | some q =>
      obtain ⟨o, b⟩ := q
      cases b with
      | false => rw [e, hi] at h; simp at h
      | true => rw [stepA_part hi] at h; exact ⟨all, o, rfl, rfl, (Option.some.inj h).symm⟩
theorem stepA_all : ∀ (l : List (List UInt8)) (st : Option (List Rk)) (r : List Rk), (l.map mkB).foldl stepA st = some r → ∀ p ∈ l, (124 : UInt8) ∉ p := by
  intro l
  induction l with
  | nil => intro _ _ _ w hw; cases hw
  | cons s l ih =>
    intro st r h p hp
    rw [List.map_cons, List.foldl_cons] at h
    rcases List.mem_cons.1 hp with rfl | hp
    · cases hq : stepA st (mkB p) with
      | none => rw [hq, fold_none stepA_none] at h; cases h
      | some x => obtain ⟨_, o, _, hi, _⟩ := stepA_some hq; exact innL_nobar hi
    · exact ih _ r h p hp
theorem stepA_shift : ∀ (l : List (List UInt8)) (a b r : List Rk), (l.map mkB).foldl stepA (some a) = some r → (l.map mkB).foldl stepA (some (b ++ a)) = some (b ++ r) := by
  intro l
  induction l with
  | nil => intro a b r h; cases h; rfl
  | cons s l ih =>
    intro a b r h
    rw [List.map_cons, List.foldl_cons] at h ⊢
    cases hq : stepA (some a) (mkB s) with
    | none => rw [hq, fold_none stepA_none] at h; cases h
    | some x =>
      obtain ⟨all, o, e1, hi, e2⟩ := stepA_some hq
      cases e1
      rw [stepA_part hi, List.append_assoc, ← e2]
      rw [hq] at h
      exact ih x b r h
/-- what a text is read as, where it is taken -/
theorem parseQ_ok {s : ByteArray} (h : (parseQ s).2 = 0) : ∃ all, altsL s.data.toList = some all ∧ s.size ≤ 4096 ∧ In0 all ∧ spansB (parseQ s).1 = true ∧ (∀ n, Has (rks (parseQ s).1) n ↔ Has all n) := by
  unfold parseQ at h ⊢
  rw [parseS_list] at h ⊢
  by_cases hz : 4096 < s.size
  · rw [if_pos hz] at h; exact absurd h (by decide)
  · rw [if_neg hz] at h ⊢
    cases ha : altsL s.data.toList with
    | none => rw [ha] at h; exact absurd h (by decide)
    | some all =>
      rw [ha] at h
      simp only at h ⊢
      have hin : In0 all := (altsF_in0 _ ha).1
      have hr := runs_in0 hin
      rcases fitR_cases (canon_nrm hr) (canon_in0 hin) with ⟨_, e, h1, h2⟩ | ⟨_, e⟩
      · refine ⟨all, rfl, by omega, hin, by rw [e]; exact h1, fun n => ?_⟩
        rw [e]
        show Has (rks ((canon (Has all)).map spnAt)) n ↔ _
        rw [h2]
        exact canon_has hr n
      · rw [e] at h; exact absurd h (by decide)
theorem parseQ_of {t : ByteArray} {all : List Rk} (hz : t.size ≤ 4096) (h : altsL t.data.toList = some all) : parseQ t = fitR (canon (Has all)) := by
  unfold parseQ
  rw [parseS_list, if_neg (by omega), h]
theorem foldQ_canon {kind : Nat} {a b : List Spn} {all : List Rk} (ha : spansB a = true) (hb : spansB b = true) (hin : In0 all) (h : ∀ n, Has all n ↔ Has (foldedF kind (rks a) (rks b)) n) : fitR (canon (Has all)) = foldQ kind a b := by
  rw [foldQ_yes ha hb, canon_is (foldedF_has kind (spans_in0 ha) (spans_in0 hb)).2 fun n => (h n).symm]
theorem parse_bars {s t : ByteArray} (hs : (parseQ s).2 = 0) (ht : (parseQ t).2 = 0) (hl : s.size + t.size ≤ 4000) : parseQ (s ++ barsB ++ t) = foldQ 106 (parseQ s).1 (parseQ t).1 := by
  obtain ⟨a, a1, _, a3, a4, a5⟩ := parseQ_ok hs
  obtain ⟨b, b1, _, b3, b4, b5⟩ := parseQ_ok ht
  have e : (s ++ barsB ++ t).data.toList = s.data.toList ++ 124 :: 124 :: t.data.toList := by simp [barsB]
  have hall : altsL (s ++ barsB ++ t).data.toList = some (a ++ b) := by
    rw [e]
    unfold altsL altsF at a1 b1 ⊢
    rw [altL_append _ _ _ _ (Nat.le_refl _) (stepA_all _ _ a a1), List.map_append, List.foldl_append, a1]
    have := stepA_shift _ [] a b b1
    rw [List.append_nil] at this
    exact this
  have hin : In0 (a ++ b) := fun x hx => by
    rcases List.mem_append.1 hx with h | h
    · exact a3 x h
    · exact b3 x h
  rw [parseQ_of (by simp only [ByteArray.size_append]; have : barsB.size = 2 := rfl; omega) hall]
  refine foldQ_canon a4 b4 hin fun n => ?_
  rw [folded_j (spans_in0 a4) (spans_in0 b4), has_append, a5, b5]
theorem stepW_shift : ∀ (l : List ByteArray) (a c : Rk) (b d : Bool), l.foldl stepW (some ((max a.1 c.1, min a.2 c.2), b || d)) = (l.foldl stepW (some (c, d))).map fun q => ((max a.1 q.1.1, min a.2 q.1.2), b || q.2) := by
  intro l
  induction l with
  | nil => intro a c b d; rfl
  | cons s l ih =>
    intro a c b d
    rw [List.foldl_cons, List.foldl_cons]
    by_cases he : s = ⟨#[]⟩
    · have e : ∀ q : Rk × Bool, stepW (some q) s = some q := fun q => by obtain ⟨o, f⟩ := q; unfold stepW; simp only [if_pos he]
      rw [e, e]
      exact ih a c b d
    · cases hx : wordF s with
      | none =>
        have e : ∀ q : Rk × Bool, stepW (some q) s = none := fun q => by obtain ⟨o, f⟩ := q; unfold stepW; simp only [if_neg he, hx]
        rw [e, e, fold_none stepW_none]
        rfl
      | some x =>
        have e : ∀ q : Rk × Bool, stepW (some q) s = some ((max q.1.1 x.1, min q.1.2 x.2), true) := fun q => by obtain ⟨o, f⟩ := q; unfold stepW; simp only [if_neg he, hx]
        rw [e, e]
        have := ih a (max c.1 x.1, min c.2 x.2) b true
        rw [Bool.or_true] at this
        rw [← this]
        congr 2
        simp only [Prod.mk.injEq, Option.some.injEq, and_true]
        omega
theorem innL_bounds {cs : List UInt8} {o : Rk} {b : Bool} (h : innL cs = some (o, b)) : 0 ≤ o.1 ∧ o.2 ≤ lastR := by
  have := innF_bounds _ h
  exact ⟨this.1.1, this.2.2⟩
theorem altsL_one {s : List UInt8} (hn : (124 : UInt8) ∉ s) {all : List Rk} (h : altsL s = some all) : ∃ o, innL s = some (o, true) ∧ all = runL o := by
  unfold altsL altsF at h
  rw [altL_last s [] hn] at h
  obtain ⟨r, o, e1, hi, e2⟩ := stepA_some (cs := [] ++ s) (st := some []) h
  cases e1
  exact ⟨o, hi, e2⟩
theorem parse_blank {s t : ByteArray} (hs : (parseQ s).2 = 0) (ht : (parseQ t).2 = 0) (hl : s.size + t.size ≤ 4000) (ns : (124 : UInt8) ∉ s.data.toList) (nt : (124 : UInt8) ∉ t.data.toList) :
    parseQ (s ++ blankB ++ t) = foldQ 109 (parseQ s).1 (parseQ t).1 := by
  obtain ⟨a, a1, _, a3, a4, a5⟩ := parseQ_ok hs
  obtain ⟨b, b1, _, b3, b4, b5⟩ := parseQ_ok ht
  obtain ⟨o, o1, rfl⟩ := altsL_one ns a1
  obtain ⟨q, q1, rfl⟩ := altsL_one nt b1
  obtain ⟨oa, ob⟩ := innL_bounds o1
  obtain ⟨qa, qb⟩ := innL_bounds q1
  have e : (s ++ blankB ++ t).data.toList = s.data.toList ++ 32 :: t.data.toList := by simp [blankB]
  have hi : innL (s ++ blankB ++ t).data.toList = some ((max o.1 q.1, min o.2 q.2), true) := by
    rw [e]
    unfold innL innF at o1 q1 ⊢
    rw [wrdL_append, List.map_append, List.foldl_append, o1]
    have := stepW_shift ((wrdL [] t.data.toList).map mkB) o (0, lastR) true false
    rw [q1] at this
    have e2 : ((max o.1 (0, lastR).1, min o.2 (0, lastR).2) : Rk) = o := by
      obtain ⟨x, y⟩ := o
      simp only [Prod.mk.injEq] at oa ob ⊢
      omega
    rw [e2] at this
    exact this
  have hall : altsL (s ++ blankB ++ t).data.toList = some (runL (max o.1 q.1, min o.2 q.2)) := by
    unfold altsL altsF
    rw [altL_last _ [] (by
      rw [e]
      intro h
      rcases List.mem_append.1 h with h | h
      · exact ns h
      · rcases List.mem_cons.1 h with h | h
        · exact absurd h (by decide)
        · exact nt h)]
    show stepA (some []) (mkB ([] ++ (s ++ blankB ++ t).data.toList)) = _
    rw [List.nil_append, stepA_part hi, List.nil_append]
  rw [parseQ_of (by simp only [ByteArray.size_append]; have : blankB.size = 1 := rfl; omega) hall]
  refine foldQ_canon a4 b4 (runL_in0 (by simp only; omega) (by simp only; omega)) fun n => ?_
  rw [folded_m (spans_in0 a4) (spans_in0 b4), a5, b5, has_runL, has_runL, has_runL]
  simp only
  omega
end Go.Proofs.YtghihopmiagcpaaGreatDoor
