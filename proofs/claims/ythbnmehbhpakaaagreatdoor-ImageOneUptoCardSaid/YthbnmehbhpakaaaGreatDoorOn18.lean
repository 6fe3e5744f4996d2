/-
  Ranges' texts read, in plain words: a word, a printed range, two texts in one.
  A text as lines of words, in plain words: as the document splits it, and as the program goes through it byte by byte.
  A package's text read, in plain words; what is written is read as it was.
  What follows of packages' texts, in plain words: however a range is written; one text for one package.
  The package whose text is fixed, in plain words.
-/
import Derived.Test.YthbnmehbhpakaaaGreatDoorOn17
import Derived.Test.YthbnmehbhpakaaaGreatDoorOn16
import Derived.Test.YthbnmehbhpakaaaGreatDoorOn11
set_option autoImplicit false
set_option relaxedAutoImplicit false
set_option linter.unusedVariables false
set_option linter.unusedSimpArgs false
namespace Go.Proofs.YthbnmehbhpakaaaGreatDoor

/-- the run, if it is one -/
def runL (x : Rk) : List Rk := if x.1 ≤ x.2 then [x] else []
theorem runL_yes {x : Rk} (h : x.1 ≤ x.2) : runL x = [x] := if_pos h
theorem runL_no {x : Rk} (h : ¬ x.1 ≤ x.2) : runL x = [] := if_neg h
/-! ### words -/
noncomputable def innL (cs : List UInt8) : Option (Rk × Bool) := innF ((wrdL [] cs).map mkB)
theorem innL_spl (s : ByteArray) : innF (spl s blankB) = innL s.data.toList := by unfold innL; rw [spl_blank]
theorem stepW_empty (st : Option (Rk × Bool)) : stepW st (mkB []) = st := by
  cases st with
  | none => rfl
  | some q =>
    obtain ⟨o, b⟩ := q
    have e : stepW (some (o, b)) (mkB []) = if mkB [] = (⟨#[]⟩ : ByteArray) then some (o, b) else (match wordF (mkB []) with | none => none | some x => some ((max o.1 x.1, min o.2 x.2), true)) := rfl
    exact e.trans (if_pos rfl)
theorem stepW_word {o x : Rk} {b : Bool} {s : ByteArray} (h : wordF s = some x) : stepW (some (o, b)) s = some ((max o.1 x.1, min o.2 x.2), true) := by
  have hs : s ≠ ⟨#[]⟩ := by
    rintro rfl
    unfold wordF at h
    rw [if_neg (by decide)] at h
    have : vparse (bareB ⟨#[]⟩) = none := vparse_no fun v hv e => by
      have e1 := pAll_txt hv
      rw [← e, show pAll (bareB ⟨#[]⟩).data.toList = some ([], 0) from rfl] at e1
      cases e1
    rw [this] at h
    cases h
  show (if s = ⟨#[]⟩ then _ else match wordF s with | none => none | some x => some ((max o.1 x.1, min o.2 x.2), true)) = _
  rw [if_neg hs, h]
theorem innL_lead (cs : List UInt8) : innL (32 :: cs) = innL cs := by
  unfold innL innF
  rw [wrdL_blank, List.map_cons, List.foldl_cons, stepW_empty]
theorem innL_trail (cs : List UInt8) : innL (cs ++ [32]) = innL cs := by
  unfold innL innF
  rw [wrdL_append cs [] [], List.map_append, List.foldl_append]
  exact stepW_empty _
theorem innL_one {cs : List UInt8} (h : (32 : UInt8) ∉ cs) {x : Rk} (hw : wordF (mkB cs) = some x) : innL cs = some ((max 0 x.1, min lastR x.2), true) := by
  unfold innL innF
  rw [wrdL_last cs [] h]
  exact stepW_word hw
theorem innL_two {cs ds : List UInt8} (h : (32 : UInt8) ∉ cs) (g : (32 : UInt8) ∉ ds) {x y : Rk} (hx : wordF (mkB cs) = some x) (hy : wordF (mkB ds) = some y) : innL (cs ++ 32 :: ds) = some ((max (max 0 x.1) y.1, min (min lastR x.2) y.2), true) := by
  unfold innL innF
  rw [wrdL_part cs [] ds h, wrdL_last ds [] g]
  show stepW (stepW _ (mkB ([] ++ cs))) (mkB ([] ++ ds)) = _
  rw [List.nil_append, List.nil_append, stepW_word hx]
  exact stepW_word hy
theorem txt_bytes {v : Ver} (h : v.ok = true) : ∀ c ∈ v.txt.data.toList, c = 46 ∨ (48 ≤ c.toNat ∧ c.toNat ≤ 57) := by
  intro c hc
  obtain ⟨⟨a0, a1⟩, ⟨b0, b1⟩, c0, c1⟩ := verB_iff.1 (show verB v.major v.minor v.patch = true from h)
  have key : ∀ n : Int, 0 ≤ n → n ≤ 999 → c ∈ (itoaB n).data.toList → 48 ≤ c.toNat ∧ c.toNat ≤ 57 := fun n h0 h1 hm => by
    have := List.all_eq_true.1 (itoa_read h0 h1).2 c hm
    simpa using this
  rw [txtL_list h] at hc
  simp only [List.mem_append, List.mem_cons] at hc
  rcases hc with hc | hc | hc | hc | hc
  · exact .inr (key _ a0 a1 hc)
  · exact .inl hc
  · exact .inr (key _ b0 b1 hc)
  · exact .inl hc
  · exact .inr (key _ c0 c1 hc)
theorem txt_no {v : Ver} (h : v.ok = true) {c : UInt8} (hc : c ≠ 46) (hd : ¬ (48 ≤ c.toNat ∧ c.toNat ≤ 57)) : c ∉ v.txt.data.toList := fun hm => by
  rcases txt_bytes h c hm with e | e
  · exact hc e
  · exact hd e
theorem txt_nosign {v : Ver} (h : v.ok = true) {c : UInt8} (hm : c ∈ v.txt.data.toList) : signsL.contains c = false := by
  cases hs : signsL.contains c with
  | false => rfl
  | true =>
    rcases isSign_iff.1 hs with rfl | rfl | rfl | rfl | rfl <;> exact absurd hm (txt_no h (by decide) (by decide))
theorem dropWhile_all {p : UInt8 → Bool} : ∀ {g r : List UInt8}, (∀ c ∈ g, p c = true) → (∀ c ∈ r, p c = false) → (g ++ r).dropWhile p = r := by
  intro g
  induction g with
  | nil =>
    intro r _ h
    cases r with
    | nil => rfl
    | cons c r => rw [List.nil_append, List.dropWhile_cons, h c (by simp)]; rfl
  | cons c g ih =>
    intro r h1 h2
    rw [List.cons_append, List.dropWhile_cons, h1 c (by simp)]
    exact ih (fun d hd => h1 d (by simp [hd])) h2
/-- a sign and a version's text -/
theorem wordF_sign {g : List UInt8} {v : Ver} (hg : ∀ c ∈ g, signsL.contains c = true) (hv : v.ok = true) : wordF (mkB (g ++ v.txt.data.toList)) = signRk g v := by
  have hne : mkB (g ++ v.txt.data.toList) ≠ ⟨#[42]⟩ := fun e => by
    have e' : g ++ v.txt.data.toList = [42] := congrArg (·.data.toList) e
    have hm : (42 : UInt8) ∈ g ++ v.txt.data.toList := by rw [e']; simp
    rcases List.mem_append.1 hm with h | h
    · exact absurd (hg 42 h) (by decide)
    · exact txt_no hv (by decide) (by decide) h
  have hb : bareB (mkB (g ++ v.txt.data.toList)) = v.txt := by
    apply bytes_ext
    show (g ++ v.txt.data.toList).dropWhile (fun c => signsL.contains c) = _
    exact dropWhile_all hg fun c hc => txt_nosign hv hc
  have hs : (signB (mkB (g ++ v.txt.data.toList))).data.toList = g := by
    unfold signB
    rw [Lib.extract_from_zero, hb, size_data, size_data v.txt]
    show (g ++ v.txt.data.toList).take ((g ++ v.txt.data.toList).length - v.txt.data.toList.length) = g
    rw [List.length_append, Nat.add_sub_cancel, List.take_left]
  unfold wordF
  rw [if_neg hne, hb, hs, vparse_some hv rfl]
theorem sign_blank {g : List UInt8} {v : Ver} (hg : ∀ c ∈ g, signsL.contains c = true) (hv : v.ok = true) : (32 : UInt8) ∉ g ++ v.txt.data.toList ∧ (124 : UInt8) ∉ g ++ v.txt.data.toList := by
  constructor
  · intro h
    rcases List.mem_append.1 h with h | h
    · exact absurd (hg _ h) (by decide)
    · exact txt_no hv (by decide) (by decide) h
  · intro h
    rcases List.mem_append.1 h with h | h
    · exact absurd (hg _ h) (by decide)
    · exact txt_no hv (by decide) (by decide) h

/-! ### alternatives -/
noncomputable def altsL (t : List UInt8) : Option (List Rk) := altsF ((altL [] t).map mkB)
theorem parseS_list (t : ByteArray) : parseS t = if 4096 < t.size then none else altsL t.data.toList := by unfold parseS altsL; rw [spl_bars]
theorem stepA_part {all : List Rk} {o : Rk} {cs : List UInt8} (h : innL cs = some (o, true)) : stepA (some all) (mkB cs) = some (all ++ runL o) := by
  show (match innF (spl (mkB cs) blankB) with | none => none | some (o, b) => if b = false then none else if o.1 ≤ o.2 then some (all ++ [o]) else some all) = _
  rw [innL_spl, mkB_data, h]
  simp only [Bool.true_eq_false, if_false]
  by_cases hle : o.1 ≤ o.2
  · rw [if_pos hle, runL_yes hle]
  · rw [if_neg hle, runL_no hle, List.append_nil]
/-- what stands for a span in a text -/
theorem spanText_read {s : Spn} (hlo : s.lo.ok = true) (hhi : s.hi.ok = true) (hle : s.lo.rank ≤ s.hi.rank) :
    (124 : UInt8) ∉ (spanText s).data.toList ∧ innL (spanText s).data.toList = some ((s.lo.rank, s.hi.rank), true) := by
  obtain ⟨l0, l1⟩ := ok_rank hlo
  obtain ⟨h0, h1⟩ := ok_rank hhi
  have key : ∀ (g : List UInt8) (v : Ver) (x : Rk), v.ok = true → (∀ c ∈ g, signsL.contains c = true) → signRk g v = some x → (124 : UInt8) ∉ g ++ v.txt.data.toList ∧ innL (g ++ v.txt.data.toList) = some ((max 0 x.1, min lastR x.2), true) := fun g v x hv hg hr => by
    obtain ⟨n1, n2⟩ := sign_blank hg hv
    exact ⟨n2, innL_one n1 ((wordF_sign hg hv).trans hr)⟩
  unfold spanText
  by_cases c1 : s.lo.rank = s.hi.rank
  · rw [if_pos c1]
    obtain ⟨k1, k2⟩ := key [] s.lo (s.lo.rank, s.lo.rank) hlo (fun c hc => by cases hc) rfl
    refine ⟨k1, k2.trans ?_⟩
    rw [← c1]
    simp only [Option.some.injEq, Prod.mk.injEq, and_true]
    omega
  · rw [if_neg c1]
    by_cases c2 : s.lo.rank = 0
    · rw [if_pos c2]
      by_cases c3 : s.hi.rank = 999999999
      · rw [if_pos c3, c2, c3]
        refine ⟨by decide, ?_⟩
        have e : innL starB.data.toList = some ((max 0 (0 : Int), min lastR lastR), true) := innL_one (x := (0, lastR)) (by decide) (if_pos rfl)
        rw [e]; rfl
      · rw [if_neg c3]
        obtain ⟨k1, k2⟩ := key [60, 61] s.hi (0, s.hi.rank) hhi (by decide) rfl
        have e : (leB ++ s.hi.text).data.toList = [60, 61] ++ s.hi.txt.data.toList := by simp [leB]; rfl
        rw [e]
        refine ⟨k1, k2.trans ?_⟩
        rw [c2]
        simp only [Option.some.injEq, Prod.mk.injEq, and_true]
        omega
    · rw [if_neg c2]
      by_cases c3 : s.hi.rank = 999999999
      · rw [if_pos c3]
        obtain ⟨k1, k2⟩ := key [62, 61] s.lo (s.lo.rank, lastR) hlo (by decide) rfl
        have e : (geB ++ s.lo.text).data.toList = [62, 61] ++ s.lo.txt.data.toList := by simp [geB]; rfl
        rw [e]
        refine ⟨k1, k2.trans ?_⟩
        rw [c3]
        simp only [Option.some.injEq, Prod.mk.injEq, and_true]
        unfold lastR at *
        omega
      · rw [if_neg c3]
        have e : (geB ++ s.lo.text ++ andB ++ s.hi.text).data.toList = ([62, 61] ++ s.lo.txt.data.toList) ++ 32 :: ([60, 61] ++ s.hi.txt.data.toList) := by
          rw [show s.lo.text = s.lo.txt from rfl, show s.hi.text = s.hi.txt from rfl]
          simp [geB, andB]
        rw [e]
        obtain ⟨n1, n2⟩ := sign_blank (g := [62, 61]) (by decide) hlo
        obtain ⟨m1, m2⟩ := sign_blank (g := [60, 61]) (by decide) hhi
        refine ⟨?_, (innL_two n1 m1 ((wordF_sign (by decide) hlo).trans (show signRk [62, 61] s.lo = some (s.lo.rank, lastR) from rfl)) ((wordF_sign (by decide) hhi).trans (show signRk [60, 61] s.hi = some (0, s.hi.rank) from rfl))).trans ?_⟩
        · intro h
          rcases List.mem_append.1 h with h | h
          · exact n2 h
          · rcases List.mem_cons.1 h with h | h
            · exact absurd h (by decide)
            · exact m2 h
        · simp only [Option.some.injEq, Prod.mk.injEq, and_true]
          unfold lastR at *
          omega
/-- a list's texts, read from where a blank may stand ahead -/
theorem join_read : ∀ (l : List Spn) (all : List Rk) (acc : List UInt8), (acc = [] ∨ acc = [32]) → l ≠ [] → (∀ s ∈ l, s.lo.ok = true ∧ s.hi.ok = true ∧ s.lo.rank ≤ s.hi.rank) →
    ((altL acc (Lib.join (l.map fun s => (spanText s).data.toList) [32, 124, 124, 32])).map mkB).foldl stepA (some all) = some (all ++ rks l) := by
  intro l
  induction l with
  | nil => intro all acc _ h; exact absurd rfl h
  | cons s l ih =>
    intro all acc hacc _ hok
    obtain ⟨o1, o2, o3⟩ := hok s (by simp)
    obtain ⟨r1, r2⟩ := spanText_read o1 o2 o3
    have hlead : ∀ cs, innL (acc ++ cs) = innL cs := fun cs => by
      rcases hacc with rfl | rfl
      · rfl
      · exact innL_lead cs
    have hrun : runL (s.lo.rank, s.hi.rank) = [(s.lo.rank, s.hi.rank)] := runL_yes o3
    rw [List.map_cons, Lib.join_cons]
    cases l with
    | nil =>
      rw [List.map_nil]
      show ((altL acc ((spanText s).data.toList ++ [])).map mkB).foldl stepA (some all) = _
      rw [List.append_nil, altL_last _ _ r1]
      show stepA (some all) (mkB (acc ++ (spanText s).data.toList)) = _
      rw [stepA_part ((hlead _).trans r2), hrun]
      rfl
    | cons t l =>
      have e : (spanText s).data.toList ++ Lib.joinTail [32, 124, 124, 32] ((t :: l).map fun s => (spanText s).data.toList) =
          ((spanText s).data.toList ++ [32]) ++ 124 :: 124 :: (32 :: Lib.join ((t :: l).map fun s => (spanText s).data.toList) [32, 124, 124, 32]) := by
        rw [List.map_cons, Lib.join_cons]
        simp [Lib.joinTail]
      rw [e, altL_part _ _ _ (by simp only [List.mem_append, List.mem_singleton, not_or]; exact ⟨r1, by decide⟩), altL_other (by decide), List.map_cons, List.foldl_cons]
      rw [stepA_part (o := (s.lo.rank, s.hi.rank)) (by rw [← List.append_assoc, innL_trail, hlead]; exact r2), hrun]
      rw [ih (all ++ [(s.lo.rank, s.hi.rank)]) ([] ++ [32]) (.inr rfl) (by simp) (fun x hx => hok x (by simp [hx]))]
      unfold rks
      rw [List.map_cons, List.append_assoc]
      rfl
/-- a range's text is read as that range -/
theorem parse_text {l : List Spn} (h : spansB l = true) : parseQ (spansText l) = (l, 0) := by
  have hsz := spansText_le l
  have hs : parseS (spansText l) = some (rks l) := by
    rw [parseS_list, if_neg (by omega)]
    unfold spansText
    rw [if_pos h]
    by_cases h0 : l = []
    · subst h0
      rw [if_pos rfl]
      unfold altsL altsF
      have e1 : (altL [] noneB.data.toList) = [noneB.data.toList] := altL_last _ [] (by decide)
      rw [e1]
      show stepA (some []) (mkB noneB.data.toList) = _
      have e2 : noneB.data.toList = [60] ++ (⟨0, 0, 0⟩ : Ver).txt.data.toList := by decide +kernel
      have e3 : wordF (mkB noneB.data.toList) = some (0, -1) := by
        rw [e2, wordF_sign (v := ⟨0, 0, 0⟩) (by decide) (by decide)]
        decide
      rw [stepA_part (innL_one (by decide) e3)]
      decide
    · rw [if_neg h0]
      obtain ⟨_, h2, h3⟩ := spansB_ok h
      have hin := spans_in0 h
      unfold altsL altsF
      have := join_read l [] [] (.inl rfl) h0 fun s hs => ⟨(h2 s hs).1, (h2 s hs).2, (hin _ (List.mem_map.2 ⟨s, hs, rfl⟩)).2.1⟩
      rw [List.nil_append] at this
      rw [← this]
      unfold joinB
      rw [List.map_map]
      rfl
  unfold parseQ
  rw [hs]
  simp only
  rw [canon_self (spans_nrm h), fitR_rks h]

/-! ### two texts in one -/
end Go.Proofs.YthbnmehbhpakaaaGreatDoor
set_option autoImplicit false
set_option relaxedAutoImplicit false
set_option linter.unusedVariables false
set_option linter.unusedSimpArgs false
namespace Go.Proofs.YthbnmehbhpakaaaGreatDoor

/-- parts between a byte; what stands ahead is the first one's beginning -/
def splL (b : UInt8) : List UInt8 → List UInt8 → List (List UInt8)
  | acc, [] => [acc]
  | acc, c :: t => if c = b then acc :: splL b [] t else splL b (acc ++ [c]) t
theorem splL_hit (b : UInt8) (acc t : List UInt8) : splL b acc (b :: t) = acc :: splL b [] t := by rw [splL, if_pos rfl]
theorem splL_next {b c : UInt8} (h : c ≠ b) (acc t : List UInt8) : splL b acc (c :: t) = splL b (acc ++ [c]) t := by rw [splL, if_neg h]
theorem splL_acc (b : UInt8) : ∀ (s acc : List UInt8), ∃ p l, splL b [] s = p :: l ∧ splL b acc s = (acc ++ p) :: l := by
  intro s
  induction s with
  | nil => intro acc; exact ⟨[], [], rfl, by rw [splL, List.append_nil]⟩
  | cons c s ih =>
    intro acc
    by_cases h : c = b
    · subst h; exact ⟨[], splL c [] s, splL_hit _ _ _, by rw [splL_hit, List.append_nil]⟩
    · obtain ⟨p, l, h1, h2⟩ := ih [c]
      obtain ⟨p', l', h3, h4⟩ := ih (acc ++ [c])
      rw [h1] at h3
      cases h3
      exact ⟨[c] ++ p, l, by rw [splL_next h, List.nil_append, h2], by rw [splL_next h, h4, List.append_assoc]⟩
theorem splL_no (b : UInt8) : ∀ (s acc : List UInt8), b ∉ s → splL b acc s = [acc ++ s] := by
  intro s
  induction s with
  | nil => intro acc _; rw [splL, List.append_nil]
  | cons c s ih =>
    intro acc h
    rw [List.mem_cons, not_or] at h
    rw [splL_next (fun e => h.1 e.symm), ih _ h.2, List.append_assoc]; rfl
theorem splL_part (b : UInt8) : ∀ (p acc t : List UInt8), b ∉ p → splL b acc (p ++ b :: t) = (acc ++ p) :: splL b [] t := by
  intro p
  induction p with
  | nil => intro acc t _; rw [List.nil_append, splL_hit, List.append_nil]
  | cons c p ih =>
    intro acc t h
    rw [List.mem_cons, not_or] at h
    rw [List.cons_append, splL_next (fun e => h.1 e.symm), ih _ _ h.2, List.append_assoc]; rfl
theorem splL_append (b : UInt8) : ∀ (s acc t : List UInt8), splL b acc (s ++ b :: t) = splL b acc s ++ splL b [] t := by
  intro s
  induction s with
  | nil => intro acc t; rw [List.nil_append, splL_hit, splL]; rfl
  | cons c s ih =>
    intro acc t
    by_cases h : c = b
    · subst h; rw [List.cons_append, splL_hit, splL_hit, ih, List.cons_append]
    · rw [List.cons_append, splL_next h, splL_next h, ih]
/-- one byte more at the end -/
theorem splL_snoc_other (b : UInt8) {c : UInt8} (hc : c ≠ b) : ∀ (s acc : List UInt8) (ws : List (List UInt8)) (cur : List UInt8), splL b acc s = ws ++ [cur] → splL b acc (s ++ [c]) = ws ++ [cur ++ [c]] := by
  intro s
  induction s with
  | nil =>
    intro acc ws cur h
    rw [splL] at h
    rw [List.nil_append, splL_next hc, splL]
    cases ws with
    | nil => simp only [List.nil_append, List.cons.injEq, and_true] at h; rw [h]; rfl
    | cons x ws => simp at h
  | cons d s ih =>
    intro acc ws cur h
    by_cases hd : d = b
    · subst hd
      rw [splL_hit] at h
      rw [List.cons_append, splL_hit]
      cases ws with
      | nil =>
        obtain ⟨p, l, h1, _⟩ := splL_acc d s []
        rw [h1] at h
        simp at h
      | cons x ws =>
        rw [List.cons_append] at h
        obtain ⟨hx, h2⟩ := List.cons.inj h
        rw [List.cons_append, ih [] ws cur h2, hx]
    · rw [splL_next hd] at h
      rw [List.cons_append, splL_next hd]
      exact ih _ _ _ h
theorem splL_snoc_hit (b : UInt8) (s acc : List UInt8) : splL b acc (s ++ [b]) = splL b acc s ++ [[]] := by
  have := splL_append b s acc []
  rw [splL] at this
  exact this
/-- a byte of a word -/
def visB (c : UInt8) : Bool := decide (33 ≤ c.toNat) && decide (c.toNat ≤ 126)
def wordOk (w : List UInt8) : Bool := !w.isEmpty && w.all visB
/-- a line's words, if it is one -/
def lineF (l : List UInt8) : Option (List (List UInt8)) := if (splL 32 [] l).all wordOk = true then some (splL 32 [] l) else none
/-- the lines' words, if all are lines, and nothing stands behind the last one -/
def linesG : List (List UInt8) → Option (List (List (List UInt8)))
  | [] => none
  | [l] => if l = [] then some [] else none
  | l :: k :: r => match lineF l with
    | none => none
    | some w => (linesG (k :: r)).map (w :: ·)
def linesF (t : List UInt8) : Option (List (List (List UInt8))) := linesG (splL 10 [] t)
theorem linesG_cons {l : List UInt8} {r : List (List UInt8)} (h : r ≠ []) : linesG (l :: r) = match lineF l with
    | none => none
    | some w => (linesG r).map (w :: ·) := by
  cases r with
  | nil => exact absurd rfl h
  | cons k r => rfl
theorem splL_ne (b : UInt8) (acc s : List UInt8) : splL b acc s ≠ [] := by
  obtain ⟨p, l, _, h⟩ := splL_acc b s acc
  rw [h]; simp

/-- the program's way: within a line, words so far, and the one that is being read -/
def scanW : List (List UInt8) → List UInt8 → List UInt8 → Option (List (List (List UInt8)))
  | _, _, [] => none
  | ws, cur, c :: t => if visB c = true then scanW ws (cur ++ [c]) t
    else if cur = [] then none
    else if c = 32 then scanW (ws ++ [cur]) [] t
    else if c = 10 then (if t = [] then some [ws ++ [cur]] else (scanW [] [] t).map ((ws ++ [cur]) :: ·))
    else none
def scanL (s : List UInt8) : Option (List (List (List UInt8))) := if s = [] then some [] else scanW [] [] s
theorem scanW_line {ws : List (List UInt8)} {cur t : List UInt8} (h : cur ≠ []) : scanW ws cur (10 :: t) = (scanL t).map ((ws ++ [cur]) :: ·) := by
  rw [scanW, if_neg (by decide), if_neg h, if_neg (by decide), if_pos rfl]
  unfold scanL
  by_cases ht : t = []
  · rw [if_pos ht, if_pos ht]; rfl
  · rw [if_neg ht, if_neg ht]
theorem scanW_word {ws : List (List UInt8)} {cur t : List UInt8} (h : cur ≠ []) : scanW ws cur (32 :: t) = scanW (ws ++ [cur]) [] t := by
  rw [scanW, if_neg (by decide), if_neg h, if_pos rfl]
theorem scanW_vis {ws : List (List UInt8)} {cur t : List UInt8} {c : UInt8} (h : visB c = true) : scanW ws cur (c :: t) = scanW ws (cur ++ [c]) t := by
  rw [scanW, if_pos h]
theorem scanW_bad {ws : List (List UInt8)} {cur t : List UInt8} {c : UInt8} (h : visB c = false) (h2 : cur = [] ∨ (c ≠ 32 ∧ c ≠ 10)) : scanW ws cur (c :: t) = none := by
  rw [scanW, if_neg (by rw [h]; decide)]
  by_cases hc : cur = []
  · rw [if_pos hc]
  · rw [if_neg hc]
    obtain ⟨h3, h4⟩ := h2.resolve_left hc
    rw [if_neg h3, if_neg h4]

/-- what no byte behind can mend -/
def DeadL (acc : List UInt8) : Prop := ∀ r, (splL 32 [] (acc ++ r)).all wordOk = false
theorem DeadL.more {acc : List UInt8} (h : DeadL acc) (c : UInt8) : DeadL (acc ++ [c]) := fun r => by rw [List.append_assoc]; exact h _
theorem DeadL.ne {acc : List UInt8} (h : DeadL acc) : acc ≠ [] := by
  rintro rfl
  exact absurd (h [97]) (by decide)
theorem dead_lines : ∀ (s acc : List UInt8), DeadL acc → linesG (splL 10 acc s) = none := by
  intro s
  induction s with
  | nil => intro acc h; rw [splL]; show (if acc = [] then _ else _) = _; rw [if_neg h.ne]
  | cons c s ih =>
    intro acc h
    by_cases hc : c = 10
    · subst hc
      rw [splL_hit, linesG_cons (splL_ne _ _ _)]
      have : lineF acc = none := by
        unfold lineF
        rw [if_neg]
        have := h []
        rw [List.append_nil] at this
        rw [this]; decide
      rw [this]
    · rw [splL_next hc]; exact ih _ (h.more c)
/-- a part that is done is among the parts, whatever follows -/
theorem splL_mem {b : UInt8} {acc s : List UInt8} {ws : List (List UInt8)} {cur : List UInt8} (h : splL b acc s = ws ++ [cur]) : ∀ r, ∃ p l, splL b acc (s ++ r) = ws ++ (cur ++ p) :: l := by
  intro r
  induction r generalizing s ws cur with
  | nil => exact ⟨[], [], by rw [List.append_nil, h, List.append_nil]⟩
  | cons c r ih =>
    by_cases hc : c = b
    · subst hc
      rw [splL_append, h]
      exact ⟨[], splL c [] r, by rw [List.append_nil, List.append_assoc]; rfl⟩
    · have h1 := splL_snoc_other b hc s acc ws cur h
      obtain ⟨p, l, h2⟩ := ih h1
      refine ⟨c :: p, l, ?_⟩
      rw [show s ++ c :: r = (s ++ [c]) ++ r by simp, h2]
      simp
theorem dead_of {acc : List UInt8} {ws : List (List UInt8)} {cur : List UInt8} (h : splL 32 [] acc = ws ++ [cur]) (hb : (∃ c ∈ cur, visB c = false) ∨ (∃ w ∈ ws, wordOk w = false)) : DeadL acc := fun r => by
  obtain ⟨p, l, e⟩ := splL_mem h r
  rw [e, List.all_append, List.all_cons]
  rcases hb with ⟨c, hc, hv⟩ | ⟨w, hw, hv⟩
  · have : wordOk (cur ++ p) = false := by
      unfold wordOk
      rw [List.all_append, List.all_eq_false.2 ⟨c, hc, by rw [hv]; decide⟩]
      simp
    rw [this]; simp
  · rw [List.all_eq_false.2 ⟨w, hw, by rw [hv]; decide⟩]; rfl
theorem vis_ne {c : UInt8} (h : visB c = true) : c ≠ 32 ∧ c ≠ 10 := by
  constructor
  · rintro rfl; exact absurd h (by decide)
  · rintro rfl; exact absurd h (by decide)
/-- both ways lead to the same lines -/
theorem scan_lines : ∀ (n : Nat) (s acc : List UInt8) (ws : List (List UInt8)) (cur : List UInt8), s.length ≤ n → splL 32 [] acc = ws ++ [cur] → ws.all wordOk = true → cur.all visB = true → (acc ≠ [] ∨ s ≠ []) → linesG (splL 10 acc s) = scanW ws cur s := by
  intro n
  induction n with
  | zero =>
    intro s acc ws cur hn h hw hc hne
    obtain rfl := List.eq_nil_of_length_eq_zero (Nat.le_zero.1 hn)
    rw [splL, scanW]
    show (if acc = [] then _ else _) = _
    rw [if_neg (hne.resolve_right (by simp))]
  | succ n ih =>
    intro s acc ws cur hn h hw hcv hne
    cases s with
    | nil =>
      rw [splL, scanW]
      show (if acc = [] then _ else _) = _
      rw [if_neg (hne.resolve_right (by simp))]
    | cons c t =>
      simp only [List.length_cons] at hn
      cases hv : visB c with
      | true =>
        obtain ⟨h1, h2⟩ := vis_ne hv
        rw [splL_next h2, scanW_vis hv]
        exact ih t _ ws (cur ++ [c]) (by omega) (splL_snoc_other 32 h1 acc [] ws cur h) hw (by rw [List.all_append, hcv]; simp [hv]) (.inl (by simp))
      | false =>
        by_cases hcur : cur = []
        · rw [scanW_bad hv (.inl hcur)]
          subst hcur
          by_cases h10 : c = 10
          · subst h10
            rw [splL_hit, linesG_cons (splL_ne _ _ _)]
            have : lineF acc = none := by
              unfold lineF
              rw [if_neg]
              rw [h, List.all_append]; simp [wordOk]
            rw [this]
          · rw [splL_next h10]
            refine dead_lines t _ ?_
            by_cases h32 : c = 32
            · subst h32
              refine dead_of (ws := ws ++ [[]]) (cur := []) (by rw [splL_snoc_hit, h]) (.inr ⟨[], by simp, by decide⟩)
            · exact dead_of (splL_snoc_other 32 h32 acc [] ws [] h) (.inl ⟨c, by simp, hv⟩)
        · have hok : (ws ++ [cur]).all wordOk = true := by
            rw [List.all_append, hw]
            simp [wordOk, hcv, hcur]
          by_cases h10 : c = 10
          · subst h10
            rw [splL_hit, linesG_cons (splL_ne _ _ _), scanW_line hcur]
            have : lineF acc = some (ws ++ [cur]) := by unfold lineF; rw [h, if_pos hok]
            rw [this]
            simp only
            congr 1
            unfold scanL
            by_cases ht : t = []
            · subst ht; rw [if_pos rfl]; rfl
            · rw [if_neg ht]
              exact ih t [] [] [] (by omega) rfl rfl rfl (.inr ht)
          · by_cases h32 : c = 32
            · subst h32
              rw [splL_next h10, scanW_word hcur]
              exact ih t _ (ws ++ [cur]) [] (by omega) (by rw [splL_snoc_hit, h]) hok rfl (.inl (by simp))
            · rw [splL_next h10, scanW_bad hv (.inr ⟨h32, h10⟩)]
              exact dead_lines t _ (dead_of (splL_snoc_other 32 h32 acc [] ws cur h) (.inl ⟨c, by simp, hv⟩))
theorem lines_scan (t : List UInt8) : linesF t = scanL t := by
  unfold linesF scanL
  by_cases h : t = []
  · subst h; rfl
  · rw [if_neg h]; exact scan_lines _ t [] [] [] (Nat.le_refl _) rfl rfl rfl (.inr h)
end Go.Proofs.YthbnmehbhpakaaaGreatDoor
set_option autoImplicit false
set_option relaxedAutoImplicit false
set_option linter.unusedVariables false
set_option linter.unusedSimpArgs false
namespace Go.Proofs.YthbnmehbhpakaaaGreatDoor

def linesB (t : ByteArray) : Option (List (List ByteArray)) := (linesF t.data.toList).map fun l => l.map fun w => w.map mkB
/-- a text's lines of words, and what stands against them -/
def scanQ (most : Nat) (t : ByteArray) : List (List ByteArray) × Int := if most < t.size then ([], 25) else match linesB t with
  | none => ([], 22)
  | some l => (l, 0)
/-- words with a blank between -/
def joinS (l : List ByteArray) : ByteArray := mkB (Lib.join (l.map (·.data.toList)) [32])
/-- what a line tells, behind a name -/
noncomputable def depE (prev : Option ByteArray) : List ByteArray → Except Int Dep
  | _ :: nm :: r :: rest => if (nameB nm && behind prev nm) = true then (if (parseQ (joinS (r :: rest))).2 = 0 ∧ (parseQ (joinS (r :: rest))).1 ≠ [] then .ok ⟨nm, (parseQ (joinS (r :: rest))).1⟩ else .error 21) else .error 23
  | _ => .error 22
/-- where a word stands first -/
def idxGo : List ByteArray → ByteArray → Option Nat
  | [], _ => none
  | y :: l, x => if y.data.toList = x.data.toList then some 0 else (idxGo l x).map (· + 1)
def lastNmK (l : List Dep) : Option ByteArray := l.getLast?.map (·.name)
/-- one line more -/
noncomputable def listsStep (order : List ByteArray) (st : Nat × List (List Dep)) (w : List ByteArray) : Except Int (Nat × List (List Dep)) :=
  match idxGo (order.drop st.1) (w.headD ⟨#[]⟩) with
  | none => .error 22
  | some k => match depE (lastNmK (st.2.getD (st.1 + k) [])) w with
    | .error e => .error e
    | .ok d => .ok (st.1 + k, st.2.set (st.1 + k) (st.2.getD (st.1 + k) [] ++ [d]))
noncomputable def listsE (order : List ByteArray) : List (List ByteArray) → Nat × List (List Dep) → Except Int (List (List Dep))
  | [], st => .ok st.2
  | w :: ws, st => match listsStep order st w with
    | .error e => .error e
    | .ok st' => listsE order ws st'
def packageW : ByteArray := ⟨#[112, 97, 99, 107, 97, 103, 101]⟩
def packOrder : List ByteArray := [needsW, besideW, likesW]
noncomputable def packE (t : ByteArray) : Except Int Pack :=
  if (scanQ 4096 t).2 ≠ 0 then .error (scanQ 4096 t).2 else match (scanQ 4096 t).1 with
  | [w0, nm, vs] :: rest => if w0.data.toList ≠ packageW.data.toList then .error 22 else if nameB nm = false then .error 23 else match vparse vs with
    | none => .error 20
    | some v => match listsE packOrder rest (0, [[], [], []]) with
      | .error e => .error e
      | .ok [d, p, o] => if packB ⟨nm, v, d, p, o⟩ = true then .ok ⟨nm, v, d, p, o⟩ else .error 24
      | .ok _ => .error 0
  | _ => .error 22
def packZ : Pack := ⟨⟨#[]⟩, ⟨0, 0, 0⟩, [], [], []⟩

/-! ### lines that were written -/
theorem linesF_line {l t : List UInt8} (h : (10 : UInt8) ∉ l) : linesF (l ++ 10 :: t) = match lineF l with
    | none => none
    | some w => (linesF t).map (w :: ·) := by
  unfold linesF
  rw [splL_part 10 l [] t h, List.nil_append, linesG_cons (splL_ne _ _ _)]
  all_goals (cases lineF l <;> rfl)
theorem lineF_cons {w l : List UInt8} {ws : List (List UInt8)} (hw : wordOk w = true) (hn : (32 : UInt8) ∉ w) (h : lineF l = some ws) : lineF (w ++ 32 :: l) = some (w :: ws) := by
  unfold lineF at h ⊢
  rw [splL_part 32 w [] l hn, List.nil_append]
  split at h
  · rename_i h1
    cases h
    rw [List.all_cons, hw, h1, if_pos (by rfl)]
  · cases h
theorem lineF_one {w : List UInt8} (hw : wordOk w = true) (hn : (32 : UInt8) ∉ w) : lineF w = some [w] := by
  unfold lineF
  rw [splL_no 32 w [] hn, List.nil_append, List.all_cons, hw, if_pos (by rfl)]
theorem join_split (b : UInt8) : ∀ (s acc : List UInt8), Lib.join (splL b acc s) [b] = acc ++ s := by
  intro s
  induction s with
  | nil => intro acc; rw [splL, Lib.join_one, List.append_nil]
  | cons c s ih =>
    intro acc
    by_cases h : c = b
    · subst h
      rw [splL_hit]
      obtain ⟨p, l, h1, _⟩ := splL_acc c s []
      have h2 := ih []
      rw [h1] at h2 ⊢
      rw [Lib.join_cons] at h2 ⊢
      rw [List.nil_append] at h2
      rw [← h2]
      simp [Lib.joinTail]
    · rw [splL_next h, ih, List.append_assoc]; rfl
theorem joinS_split (s : ByteArray) : joinS ((splL 32 [] s.data.toList).map mkB) = s := by
  unfold joinS
  rw [List.map_map, show (fun x : ByteArray => x.data.toList) ∘ mkB = id from rfl, List.map_id, join_split 32 s.data.toList [], List.nil_append, mkB_self]

/-! ### a range's text is words -/
def GoodW (s : List UInt8) : Prop := (splL 32 [] s).all wordOk = true ∧ (10 : UInt8) ∉ s
theorem good_append {a b : List UInt8} (ha : GoodW a) (hb : GoodW b) : GoodW (a ++ 32 :: b) := by
  refine ⟨by rw [splL_append, List.all_append, ha.1, hb.1]; rfl, ?_⟩
  intro h
  rcases List.mem_append.1 h with h | h
  · exact ha.2 h
  · rcases List.mem_cons.1 h with h | h
    · exact absurd h (by decide)
    · exact hb.2 h
theorem good_word {w : List UInt8} (h0 : w ≠ []) (h : ∀ c ∈ w, visB c = true) : GoodW w := by
  have h1 : (32 : UInt8) ∉ w := fun hm => absurd (h _ hm) (by decide)
  have h2 : (10 : UInt8) ∉ w := fun hm => absurd (h _ hm) (by decide)
  refine ⟨?_, h2⟩
  rw [splL_no 32 w [] h1, List.nil_append, List.all_cons]
  unfold wordOk
  rw [List.all_eq_true.2 h]
  cases w with
  | nil => exact absurd rfl h0
  | cons c w => rfl
theorem txt_vis {v : Ver} (h : v.ok = true) : v.txt.data.toList ≠ [] ∧ ∀ c ∈ v.txt.data.toList, visB c = true := by
  constructor
  · intro e
    have := pAll_txt h
    rw [e] at this
    exact absurd this (by unfold pAll; simp)
  · intro c hc
    rcases txt_bytes h c hc with rfl | ⟨h1, h2⟩
    · decide
    · unfold visB; rw [decide_eq_true (show 33 ≤ c.toNat by omega), decide_eq_true (show c.toNat ≤ 126 by omega)]; rfl
theorem sign_vis {g : List UInt8} {v : Ver} (hg : ∀ c ∈ g, visB c = true) (h : v.ok = true) : GoodW (g ++ v.txt.data.toList) := by
  obtain ⟨h1, h2⟩ := txt_vis h
  refine good_word (by intro e; exact h1 (List.append_eq_nil_iff.1 e).2) fun c hc => ?_
  rcases List.mem_append.1 hc with hc | hc
  · exact hg c hc
  · exact h2 c hc
theorem spanText_good {s : Spn} (hlo : s.lo.ok = true) (hhi : s.hi.ok = true) : GoodW (spanText s).data.toList := by
  unfold spanText
  split
  · exact sign_vis (g := []) (fun c hc => by cases hc) hlo
  · split
    · split
      · exact good_word (by decide) (by decide)
      · have e : (leB ++ s.hi.text).data.toList = [60, 61] ++ s.hi.txt.data.toList := by simp [leB]; rfl
        rw [e]; exact sign_vis (by decide) hhi
    · split
      · have e : (geB ++ s.lo.text).data.toList = [62, 61] ++ s.lo.txt.data.toList := by simp [geB]; rfl
        rw [e]; exact sign_vis (by decide) hlo
      · have e : (geB ++ s.lo.text ++ andB ++ s.hi.text).data.toList = ([62, 61] ++ s.lo.txt.data.toList) ++ 32 :: ([60, 61] ++ s.hi.txt.data.toList) := by
          rw [show s.lo.text = s.lo.txt from rfl, show s.hi.text = s.hi.txt from rfl]
          simp [geB, andB]
        rw [e]; exact good_append (sign_vis (by decide) hlo) (sign_vis (by decide) hhi)
theorem join_good : ∀ (l : List Spn), l ≠ [] → (∀ s ∈ l, s.lo.ok = true ∧ s.hi.ok = true) → GoodW (Lib.join (l.map fun s => (spanText s).data.toList) [32, 124, 124, 32]) := by
  intro l
  induction l with
  | nil => intro h; exact absurd rfl h
  | cons s l ih =>
    intro _ hok
    have hs := spanText_good (hok s (by simp)).1 (hok s (by simp)).2
    rw [List.map_cons, Lib.join_cons]
    cases l with
    | nil => simp only [List.map_nil, Lib.joinTail, List.flatten_nil, List.append_nil]; exact hs
    | cons t l =>
      have e : (spanText s).data.toList ++ Lib.joinTail [32, 124, 124, 32] ((t :: l).map fun s => (spanText s).data.toList) =
          (spanText s).data.toList ++ 32 :: ([124, 124] ++ 32 :: Lib.join ((t :: l).map fun s => (spanText s).data.toList) [32, 124, 124, 32]) := by
        rw [List.map_cons, Lib.join_cons]
        simp [Lib.joinTail]
      rw [e]
      exact good_append hs (good_append (good_word (by decide) (by decide)) (ih (by simp) fun x hx => hok x (by simp [hx])))
theorem spansText_good {l : List Spn} (h : spansB l = true) : GoodW (spansText l).data.toList := by
  unfold spansText
  rw [if_pos h]
  by_cases h0 : l = []
  · rw [if_pos h0]; exact good_word (by decide) (by decide)
  · rw [if_neg h0]
    have := join_good l h0 (spansB_ok h).2.1
    unfold joinB
    rw [List.map_map]
    exact this
theorem name_vis {s : ByteArray} (h : nameB s = true) : s.data.toList ≠ [] ∧ ∀ c ∈ s.data.toList, visB c = true := by
  have h' : nameL s.data.toList = true := h
  have h0 : s.data.toList ≠ [] := by
    intro e; rw [e] at h'; exact absurd h' (by decide)
  refine ⟨h0, fun c hc => ?_⟩
  rw [nameGo_name _ h0, Bool.and_eq_true] at h'
  have hall : s.data.toList.all nameC = true := by
    obtain ⟨h1, _⟩ := h'
    cases hl : s.data.toList with
    | nil => exact absurd hl h0
    | cons d r =>
      rw [hl, nameGo, Bool.and_eq_true] at h1
      rw [List.all_cons, Bool.and_eq_true]
      refine ⟨?_, ?_⟩
      · unfold nameC
        have := h1.1
        simp at this
        rw [this]; rfl
      · rw [← nameGo_all r 1 (by decide)]; exact h1.2
  have := List.all_eq_true.1 hall c hc
  unfold nameC lowerC otherC at this
  unfold visB
  simp only [Bool.or_eq_true, Bool.and_eq_true, decide_eq_true_eq] at this ⊢
  omega

/-! ### what is written is read -/
/-- a line's words -/
def lineW (word : ByteArray) (d : Dep) : List ByteArray := word :: d.name :: (splL 32 [] (spansText d.range).data.toList).map mkB
def GoodB (w : ByteArray) : Prop := w.data.toList ≠ [] ∧ ∀ c ∈ w.data.toList, visB c = true
theorem good_split {w : List UInt8} (h : GoodW w) : lineF w = some (splL 32 [] w) := by unfold lineF; rw [if_pos h.1]
theorem noblank {w : List UInt8} (h : ∀ c ∈ w, visB c = true) : (32 : UInt8) ∉ w ∧ (10 : UInt8) ∉ w := ⟨fun hm => absurd (h _ hm) (by decide), fun hm => absurd (h _ hm) (by decide)⟩
theorem wordOk_of {w : List UInt8} (h0 : w ≠ []) (h : ∀ c ∈ w, visB c = true) : wordOk w = true := by
  unfold wordOk
  rw [List.all_eq_true.2 h]
  cases w with
  | nil => exact absurd rfl h0
  | cons c w => rfl
theorem lineD_lines {word : ByteArray} {d : Dep} {t : List UInt8} (hw : GoodB word) (hn : nameB d.name = true) (hr : spansB d.range = true) :
    linesF ((lineD word d).data.toList ++ t) = (linesF t).map ((word.data.toList :: d.name.data.toList :: splL 32 [] (spansText d.range).data.toList) :: ·) := by
  have hnm := name_vis hn
  have hg := spansText_good hr
  obtain ⟨w1, w2⟩ := noblank hw.2
  obtain ⟨n1, n2⟩ := noblank hnm.2
  have e : (lineD word d).data.toList ++ t = (word.data.toList ++ 32 :: (d.name.data.toList ++ 32 :: (spansText d.range).data.toList)) ++ 10 :: t := by
    unfold lineD
    simp [spaceB, nlB]
  rw [e, linesF_line (by
    simp only [List.mem_append, List.mem_cons, not_or]
    exact ⟨w2, by decide, n2, by decide, hg.2⟩)]
  rw [lineF_cons (wordOk_of hw.1 hw.2) w1 (lineF_cons (wordOk_of hnm.1 hnm.2) n1 (good_split hg))]
theorem linesD_lines {word : ByteArray} (hw : GoodB word) : ∀ (l : List Dep) (t : List UInt8), (∀ d ∈ l, nameB d.name = true ∧ spansB d.range = true) →
    linesF ((linesD word l).data.toList ++ t) = (linesF t).map ((l.map fun d => word.data.toList :: d.name.data.toList :: splL 32 [] (spansText d.range).data.toList) ++ ·) := by
  intro l
  induction l with
  | nil =>
    intro t _
    have : (linesD word []).data.toList = [] := rfl
    rw [this, List.nil_append, List.map_nil]
    simp
  | cons d l ih =>
    intro t h
    have e : (linesD word (d :: l)).data.toList ++ t = (lineD word d).data.toList ++ ((linesD word l).data.toList ++ t) := by
      show ((lineD word d ++ linesD word l).data.toList) ++ t = _
      simp
    rw [e, lineD_lines hw (h d (by simp)).1 (h d (by simp)).2, ih t fun x hx => h x (by simp [hx]), Option.map_map]
    rfl
theorem depE_line {word : ByteArray} {d : Dep} {prev : Option ByteArray} (hn : nameB d.name = true) (hb : behind prev d.name = true) (hr : spansB d.range = true) (h0 : d.range ≠ []) : depE prev (lineW word d) = .ok d := by
  obtain ⟨p, l, h1, _⟩ := splL_acc 32 (spansText d.range).data.toList []
  have hj := joinS_split (spansText d.range)
  unfold lineW
  rw [h1] at hj ⊢
  rw [List.map_cons] at hj ⊢
  unfold depE
  simp only
  rw [hn, hb, Bool.and_self, if_pos rfl, hj, parse_text hr, if_pos ⟨rfl, h0⟩]
theorem lastN_snoc (l : List Dep) (d : Dep) : lastNmK (l ++ [d]) = some d.name := by unfold lastNmK; rw [List.getLast?_append]; rfl
/-- the lines of one list, one behind the other -/
theorem lists_run {order : List ByteArray} {word : ByteArray} {j : Nat} (hidx : ∀ a, a ≤ j → idxGo (order.drop a) word = some (j - a)) : ∀ (l : List Dep) (a : Nat) (out : List (List Dep)) (pre : List Dep) (rest : List (List ByteArray)), a ≤ j → out[j]? = some pre → listGo (lastNmK pre) l = true →
    listsE order (l.map (lineW word) ++ rest) (a, out) = listsE order rest (if l = [] then a else j, out.set j (pre ++ l)) := by
  intro l
  induction l with
  | nil =>
    intro a out pre rest _ ho _
    have : out.set j pre = out := by
      obtain ⟨hj, rfl⟩ := List.getElem?_eq_some_iff.1 ho
      exact List.set_getElem_self hj
    rw [List.map_nil, List.nil_append, if_pos rfl, List.append_nil, this]
  | cons d l ih =>
    intro a out pre rest ha ho hl
    unfold listGo at hl
    simp only [Bool.and_eq_true, decide_eq_true_eq] at hl
    obtain ⟨⟨h1, h2, h3, h4⟩, h5⟩ := hl
    obtain ⟨hj, hpre⟩ := List.getElem?_eq_some_iff.1 ho
    have hgd : out.getD (a + (j - a)) [] = pre := by
      rw [show a + (j - a) = j by omega, List.getD_eq_getElem?_getD, ho]; rfl
    have hst : listsStep order (a, out) (lineW word d) = .ok (j, out.set j (pre ++ [d])) := by
      unfold listsStep
      simp only [show (lineW word d).headD ⟨#[]⟩ = word from rfl, hidx a ha, hgd]
      rw [depE_line h1 h4 h2 (by intro e; rw [e] at h3; exact h3 rfl)]
      simp only [show a + (j - a) = j by omega]
    rw [List.map_cons, List.cons_append, listsE, hst]
    simp only
    rw [ih j (out.set j (pre ++ [d])) (pre ++ [d]) rest (Nat.le_refl _) (by rw [List.getElem?_set_self hj]) (by rw [lastN_snoc]; exact h5), List.set_set, List.append_assoc, show (if l = [] then j else j) = j by split <;> rfl, if_neg (show ¬ (d :: l = []) by simp)]
    rfl
theorem listB_go {l : List Dep} (h : listB l = true) : listGo none l = true ∧ ∀ d ∈ l, nameB d.name = true ∧ spansB d.range = true := by
  unfold listB at h
  rw [Bool.and_eq_true] at h
  exact ⟨h.1, listGo_mem h.1⟩
theorem pack_idx : (∀ a, a ≤ 0 → idxGo (packOrder.drop a) needsW = some (0 - a)) ∧ (∀ a, a ≤ 1 → idxGo (packOrder.drop a) besideW = some (1 - a)) ∧ (∀ a, a ≤ 2 → idxGo (packOrder.drop a) likesW = some (2 - a)) := by
  refine ⟨fun a h => ?_, fun a h => ?_, fun a h => ?_⟩
  · obtain rfl : a = 0 := by omega
    rfl
  · have : a = 0 ∨ a = 1 := by omega
    rcases this with rfl | rfl <;> rfl
  · have : a = 0 ∨ a = 1 ∨ a = 2 := by omega
    rcases this with rfl | rfl | rfl <;> rfl
theorem mk_line (word : ByteArray) (d : Dep) : (word.data.toList :: d.name.data.toList :: splL 32 [] (spansText d.range).data.toList).map mkB = lineW word d := by
  rw [List.map_cons, List.map_cons, mkB_self, mkB_self]; rfl
/-- a package's lines -/
theorem packText_lines {p : Pack} (h : packB p = true) : linesB (packText p) = some ([packageW, p.name, p.ver.txt] :: (p.deps.map (lineW needsW) ++ (p.peers.map (lineW besideW) ++ (p.opts.map (lineW likesW) ++ [])))) := by
  unfold packB at h
  simp only [Bool.and_eq_true, decide_eq_true_eq] at h
  obtain ⟨hn, hv, hd, hp, ho, _, _⟩ := h
  have hnm := name_vis hn
  have hvv := txt_vis (v := p.ver) hv
  obtain ⟨n1, n2⟩ := noblank hnm.2
  obtain ⟨v1, v2⟩ := noblank hvv.2
  have e : (packText p).data.toList = (packageW.data.toList ++ 32 :: (p.name.data.toList ++ 32 :: p.ver.txt.data.toList)) ++ 10 :: ((linesD needsW p.deps).data.toList ++ ((linesD besideW p.peers).data.toList ++ ((linesD likesW p.opts).data.toList ++ []))) := by
    unfold packText packHead
    rw [show verText p.ver.major p.ver.minor p.ver.patch = p.ver.txt from rfl]
    simp [packW, packageW, spaceB, nlB]
  unfold linesB
  rw [e, linesF_line (by
    simp only [List.mem_append, List.mem_cons, not_or]
    exact ⟨by decide, by decide, n2, by decide, v2⟩)]
  rw [lineF_cons (by decide) (by decide) (lineF_cons (wordOk_of hnm.1 hnm.2) n1 (lineF_one (wordOk_of hvv.1 hvv.2) v1))]
  rw [linesD_lines (by unfold GoodB; decide) _ _ (listB_go hd).2, linesD_lines (by unfold GoodB; decide) _ _ (listB_go hp).2, linesD_lines (by unfold GoodB; decide) _ _ (listB_go ho).2]
  rw [show linesF [] = some [] from rfl]
  simp only [Option.map_some, List.map_cons, List.map_append, List.map_nil, List.map_map, mkB_self]
  have key : ∀ (word : ByteArray) (l : List Dep), l.map ((fun w => w.map mkB) ∘ fun d => word.data.toList :: d.name.data.toList :: splL 32 [] (spansText d.range).data.toList) = l.map (lineW word) := fun word l => List.map_congr_left fun d _ => mk_line word d
  rw [key, key, key]
theorem pack_text {p : Pack} (h : packB p = true) : packE (packText p) = .ok p := by
  have hl := packText_lines h
  have hb := h
  unfold packB at h
  simp only [Bool.and_eq_true, decide_eq_true_eq] at h
  obtain ⟨hn, hv, hd, hp, ho, _, hz⟩ := h
  have hs : scanQ 4096 (packText p) = ([packageW, p.name, p.ver.txt] :: (p.deps.map (lineW needsW) ++ (p.peers.map (lineW besideW) ++ (p.opts.map (lineW likesW) ++ []))), 0) := by
    unfold scanQ
    rw [if_neg (by omega), hl]
  obtain ⟨i1, i2, i3⟩ := pack_idx
  have hli : listsE packOrder (p.deps.map (lineW needsW) ++ (p.peers.map (lineW besideW) ++ (p.opts.map (lineW likesW) ++ []))) (0, [[], [], []]) = .ok [p.deps, p.peers, p.opts] := by
    rw [lists_run i1 p.deps 0 [[], [], []] [] _ (Nat.le_refl _) rfl (listB_go hd).1]
    rw [show (if p.deps = [] then 0 else 0) = 0 by split <;> rfl]
    rw [lists_run i2 p.peers 0 _ [] _ (by decide) rfl (listB_go hp).1]
    have hle : (if p.peers = [] then 0 else 1) ≤ 2 := by split <;> decide
    rw [lists_run i3 p.opts _ _ [] _ hle rfl (listB_go ho).1, listsE]
    rfl
  unfold packE
  rw [hs, if_neg (by simp)]
  simp only
  rw [if_neg (by simp), hn, if_neg (by decide), vparse_some (v := p.ver) hv rfl]
  simp only
  rw [hli]
  simp only
  rw [if_pos hb]
end Go.Proofs.YthbnmehbhpakaaaGreatDoor
set_option autoImplicit false
set_option relaxedAutoImplicit false
set_option linter.unusedVariables false
set_option linter.unusedSimpArgs false
namespace Go.Proofs.YthbnmehbhpakaaaGreatDoor

/-! ### a package of one range, however it is written -/
theorem packText_inj {p q : Pack} (hp : packB p = true) (hq : packB q = true) : packText p = packText q ↔ p = q := by
  refine ⟨fun h => ?_, fun h => by rw [h]⟩
  have h1 := pack_text hp
  rw [h, pack_text hq] at h1
  exact (Except.ok.inj h1).symm
end Go.Proofs.YthbnmehbhpakaaaGreatDoor
set_option autoImplicit false
set_option relaxedAutoImplicit false
set_option linter.unusedVariables false
set_option linter.unusedSimpArgs false
namespace Go.Proofs.YthbnmehbhpakaaaGreatDoor

end Go.Proofs.YthbnmehbhpakaaaGreatDoor
