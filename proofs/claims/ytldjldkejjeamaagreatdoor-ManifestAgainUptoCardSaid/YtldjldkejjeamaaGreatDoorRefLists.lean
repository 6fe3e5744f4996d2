/-
  Lists of the document's reader in the cells of one block: what a line more leaves of them.
  The document's reader of a package's line (halyardref05.Dep), walked.
  The document's reader of all lines of a package or a manifest (halyardref05.Lists), walked.
-/
import Derived.Test.YtldjldkejjeamaaGreatDoorPackE
import Derived.Test.YtldjldkejjeamaaGreatDoorDepA
import Derived.Test.YtldjldkejjeamaaGreatDoorRefP
import Derived.Deep.RegionLaw
set_option autoImplicit false
set_option relaxedAutoImplicit false
set_option linter.unusedVariables false
set_option linter.unusedSimpArgs false
namespace Go.Proofs.YtldjldkejjeamaaGreatDoor
open Go.Rows Go.RowKit Go.Shelf Go.Sort

/-- lists of the call's own, in rows that are apart -/
def PartsR (n B : Nat) (w : World) (v : Nat → Value) (l : Nat → List Dep) (S : Nat → Prop) : Prop :=
  (∀ j, j < n → Own rDep w B 38 (v j) (l j) S) ∧ (∀ b, S b → B ≤ b) ∧ (∀ i j g, i < n → j < n → i ≠ j → (v i).ownBlock = some g → (v j).ownBlock ≠ some g)
section
variable {n B : Nat} {w w' : World} {v : Nat → Value} {l : Nat → List Dep} {S : Nat → Prop}
theorem PartsR.nil (n B : Nat) (w : World) : PartsR n B w (fun _ => .slice none 0 0) (fun _ => []) (fun _ => False) :=
  ⟨fun _ _ => Own.nil_ _ _ _ _ (fun b hb => hb.elim), fun b hb => hb.elim, fun _ _ _ _ _ _ h => by cases h⟩
theorem PartsR.keep (h : PartsR n B w v l S) (hb : Below w.heap.size w w') : PartsR n B w' v l S :=
  ⟨fun j hj => (h.1 j hj).keep hb, h.2.1, h.2.2⟩
theorem PartsR.at (h : PartsR n B w v l S) {b : Nat} (hb : b < B) (hg : w.grownBy w' (some b)) : PartsR n B w' v l S := by
  refine ⟨fun j hj => (h.1 j hj).grown hg ?_ ?_, h.2.1, h.2.2⟩
  · cases hv : (v j).ownBlock with
    | none => exact .inl rfl
    | some g => exact .inr fun e => by have := ((h.1 j hj).lt g hv).1; simp only [Option.some.injEq] at e; omega
  · intro c hs e
    cases e
    have := h.2.1 b hs; omega
theorem PartsR.more (h : PartsR n B w v l S) (hb : Below w.heap.size w w') (hB : B ≤ w.heap.size) : PartsR n B w' v l (fun b => S b ∨ (w.heap.size ≤ b ∧ b < w'.heap.size)) := by
  have hk := h.keep hb
  refine ⟨fun j hj => (hk.1 j hj).more ?_ (fun b hs => .inl hs), ?_, h.2.2⟩
  · rintro b (hs | hs)
    · exact (hk.1 j hj).1 b hs
    · exact ⟨hs.2, fun e => by have := ((h.1 j hj).lt b e).2; have := hs.1; omega⟩
  · rintro b (hs | hs)
    · exact h.2.1 b hs
    · exact Nat.le_trans hB hs.1
theorem PartsR.push {o : Obj} {k g m cap : Nat} {d : Dep} (h : PartsR n B w v l S) (hk : k < n) (hown : Own rDep w' B 38 (.slice (some ⟨g, 0, none⟩) m cap) (l k ++ [d]) S)
    (hg : (w.alloc o).grownBy w' (v k).ownBlock) (hat : (v k).ownBlock = some g ∨ g = w.heap.size + 1) : PartsR n B w' (upd v k (.slice (some ⟨g, 0, none⟩) m cap)) (upd l k (l k ++ [d])) S := by
  have hS : ∀ b, S b → some b ≠ (v k).ownBlock := fun b hb => Ne.symm ((h.1 k hk).1 b hb).2
  have hv : ∀ j, j < n → j ≠ k → (v j).ownBlock ≠ some g := fun j hj hne e => by
    rcases hat with hat | hat
    · exact h.2.2 j k g hj hk hne e hat
    · have := ((h.1 j hj).lt g e).2; omega
  refine ⟨fun j hj => ?_, h.2.1, fun i j q hi hj hne hq => ?_⟩
  · by_cases e : j = k
    · subst e; rw [upd_at, upd_at]; exact hown
    · rw [upd_ne _ _ e, upd_ne _ _ e]
      refine ((h.1 j hj).alloc o).grown hg ?_ hS
      cases hvj : (v j).ownBlock with
      | none => exact .inl rfl
      | some q => exact .inr fun e' => h.2.2 j k q hj hk e hvj e'.symm
  · by_cases ei : i = k
    · subst ei
      rw [upd_at] at hq
      simp only [Value.ownBlock, Option.some.injEq] at hq
      subst hq
      rw [upd_ne _ _ (Ne.symm hne)]
      exact hv j hj (Ne.symm hne)
    · rw [upd_ne _ _ ei] at hq
      by_cases ej : j = k
      · subst ej
        rw [upd_at]
        intro e
        simp only [Value.ownBlock, Option.some.injEq] at e
        subst e
        exact hv i hi ei hq
      · rw [upd_ne _ _ ej]
        exact h.2.2 i j q hi hj hne hq
end
theorem partsR_step {n P k g m cap : Nat} {hd : List Value} {t : TypeId} {w8 wc w9 : World} {v : Nat → Value} {l : Nat → List Dep} {S : Nat → Prop} {o : Obj} {d : Dep} (hP : P < w8.heap.size) (hIn : PartsR n w8.heap.size wc v l S) (hAt : PartsAt P hd t n wc v) (hT : Turn (fun j => j = P) w8 wc) (hk : k < n)
    (hown : Own rDep w9 w8.heap.size 38 (.slice (some ⟨g, 0, none⟩) m cap) (l k ++ [d]) S) (hg : (wc.drew.alloc o).grownBy w9 (v k).ownBlock) (hat : (v k).ownBlock = some g ∨ g = wc.heap.size + 1) :
    PartsR n w8.heap.size (w9.setCell ⟨P, hd.length + k, none⟩ (.slice (some ⟨g, 0, none⟩) m cap)) (upd v k (.slice (some ⟨g, 0, none⟩) m cap)) (upd l k (l k ++ [d])) S ∧
    PartsAt P hd t n (w9.setCell ⟨P, hd.length + k, none⟩ (.slice (some ⟨g, 0, none⟩) m cap)) (upd v k (.slice (some ⟨g, 0, none⟩) m cap)) ∧
    Turn (fun j => j = P) w8 (w9.setCell ⟨P, hd.length + k, none⟩ (.slice (some ⟨g, 0, none⟩) m cap)) := by
  have hbd : Below wc.heap.size wc wc.drew := (Below.refl _ _).drew
  have hrow : ∀ q, (v k).ownBlock = some q → w8.heap.size ≤ q := fun q hq => ((hIn.1 k hk).lt q hq).1
  have hne : some P ≠ (v k).ownBlock := fun e => by have := hrow P e.symm; omega
  refine ⟨((hIn.keep hbd).push hk hown hg hat).at hP (grownBy_set _ _ _ _), (((hAt.keep hbd).keep ((Below.refl _ _).alloc (Nat.le_refl _) o)).grown hg hne).set hk _, ?_⟩
  have h1 : Turn (fun j => j = P) w8 (wc.drew.alloc o) := (hT.trans (Turn.of_below hbd)).trans (Turn.alloc _ _)
  have h2 : Turn (fun j => j = P) w8 w9 := h1.trans2 (Turn.grown (X := fun q => some q = (v k).ownBlock) hg (fun q hq => hq.symm)) (fun q hq e => by have := hrow q e.symm; omega)
  exact h2.trans (Turn.grown (grownBy_set _ _ _ _) (fun q hq => by cases hq; rfl))
end Go.Proofs.YtldjldkejjeamaaGreatDoor
set_option autoImplicit false
set_option relaxedAutoImplicit false
set_option linter.unusedVariables false
set_option linter.unusedSimpArgs false
namespace Go.Proofs.YtldjldkejjeamaaGreatDoor
open Go.Rows Go.RowKit Go.Shelf Go.Sort

theorem joinS_take {r : ByteArray} {rest : List ByteArray} {k : Nat} (hk : k < rest.length) : joinS ((r :: rest).take (k + 2)) = joinS ((r :: rest).take (k + 1)) ++ ⟨#[32]⟩ ++ rest[k] := by
  apply bytes_ext
  rw [ByteArray.data_append, ByteArray.data_append, Array.toList_append, Array.toList_append]
  show Lib.join _ _ = Lib.join _ _ ++ [32] ++ rest[k].data.toList
  rw [List.take_succ_cons, List.take_succ_cons, List.map_cons, List.map_cons, Lib.join_cons, Lib.join_cons, List.map_take, List.map_take,
    Lib.joinTail_take_succ _ _ k rest[k].data.toList (by rw [List.getElem?_map, List.getElem?_eq_getElem hk]; rfl)]
  simp
theorem joinS_take_le (r : ByteArray) (rest : List ByteArray) (k : Nat) : (joinS ((r :: rest).take (k + 1))).size ≤ (joinS (r :: rest)).size := by
  rw [size_data, size_data]
  show (Lib.join _ _).length ≤ (Lib.join _ _).length
  rw [List.take_succ_cons, List.map_cons, List.map_cons, Lib.join_cons, Lib.join_cons, List.map_take, List.length_append, List.length_append]
  have := Lib.joinTail_take_le [32] (rest.map (·.data.toList)) k
  omega
theorem joinS_one (r : ByteArray) : joinS [r] = r := by
  apply bytes_ext
  show Lib.join _ _ = _
  rw [List.map_cons, List.map_nil, Lib.join_cons]
  simp [Lib.joinTail]

/-- what the document's reader of a line answers -/
def DepW (prev : Option ByteArray) (ws : List ByteArray) (w : World) (e : Ending) (w' : World) : Prop :=
  Below w.heap.size w w' ∧ ((∃ k, depE prev ws = .error k ∧ e = .returned (.tuple #[.agg #[.string ⟨#[]⟩, .slice none 0 0], .int .i64 k])) ∨
    (∃ d v, depE prev ws = .ok d ∧ e = .returned (.tuple #[.agg #[.string d.name, v], .int .i64 0]) ∧ SlV rSpn w' (fun b => w.heap.size ≤ b) d.range v))

set_option maxHeartbeats 4000000 in
set_option maxRecDepth 100000 in
theorem refDep_any (prev : Option ByteArray) (last : ByteArray) (ws : List ByteArray) (A : Option Addr) (n c : Nat) (w : World) (S : Nat → Prop) (hx : SlV rStr w S ws (.slice A n c)) (hz : (joinS ws).size ≤ 1000000) (hn : ws.length ≤ 1000000) (hp : (prev = none ∧ last = ⟨#[]⟩) ∨ (prev = some last ∧ last ≠ ⟨#[]⟩)) (hls : last.size ≤ maxLen) :
    Calls Tryz.prog 89 #[.slice A n c, .string last] w (DepW prev ws w) := by
  have hnx := hx.n_eq
  by_cases h3 : n < 3
  · have Hd : Hid (depE prev ws = .error 22) := depE_short (by omega)
    have hI : (n : Int) < 3 := by omega
    clear hx hnx
    go_enter Tryz.func89, Tryz.ntmps89
    go_wp2_with fail
    refine ret_rk rfl rfl rfl rfl (heap_alloc_new w _) Tryz.underlying38 rfl (by kernel_rfl) ⟨bal (Below.refl _ _) _, .inl ⟨_, Hd.out, rfl⟩⟩
  obtain ⟨a, nm, r, rest, rfl⟩ : ∃ a nm r rest, ws = a :: nm :: r :: rest := by
    match ws, hnx with
    | [], h => simp at h; omega
    | [_], h => simp at h; omega
    | [_, _], h => simp at h; omega
    | a :: nm :: r :: rest, _ => exact ⟨a, nm, r, rest, rfl⟩
  have hlen : n = rest.length + 3 := by rw [hnx]; rfl
  obtain ⟨bk, ok, rfl, _, hbl⟩ := hx.at (by simp)
  obtain ⟨e1, hnz⟩ := hx.str (i := 1) (x := nm) rfl
  obtain ⟨e2, hrz⟩ := hx.str (i := 2) (x := r) rfl
  have HC : Hid (∀ k (hk : k < rest.length), w.cell? ⟨bk, ok + (k + 3), none⟩ = some (.string rest[k])) := fun k hk => (hx.str (i := k + 3) (x := rest[k]) (by show rest[k]? = _; exact List.getElem?_eq_getElem hk)).1
  have hjz : (joinS (r :: rest)).size ≤ 1000000 := Nat.le_trans (Nat.le_trans (joinS_tail nm _) (joinS_tail a _)) hz
  obtain ⟨pl, pe, hpq⟩ : ∃ pl pe, parseQ (joinS (r :: rest)) = (pl, pe) := ⟨_, _, rfl⟩
  have HP : Hid (∀ W, Calls Tryz.prog 23 #[.string (joinS (r :: rest))] W fun e w' => ∃ v, e = .returned (.tuple #[v, .int .i64 pe]) ∧ SlV rSpn w' (fun b => W.heap.size ≤ b) pl v ∧ Below W.heap.size W w') := fun W => by
    have := refParse_any (joinS (r :: rest)) W (by omega)
    rw [hpq] at this
    exact this
  have HN : Hid (∀ W, Calls Tryz.prog 24 #[.string nm] W fun e w' => e = .returned (.bool (nameB nm)) ∧ Below W.heap.size W w') := fun W => (refName_any nm hnz W).mono fun e w' h => ⟨h.1, h.2 ▸ Below.refl _ _⟩
  have HL : Hid (∀ W, Calls Tryz.prog 79 #[.string last, .string nm] W fun e w' => e = .returned (.bool (lessB last nm)) ∧ Below W.heap.size W w') := fun W => less_any last nm hls hnz W
  have Hbad := Lib.hid (fun h => depE_bad (prev := prev) (a := a) (nm := nm) (r := r) (rest := rest) h)
  have Hno : Hid ((nameB nm && behind prev nm) = true → (pe ≠ 0 ∨ pl = []) → depE prev (a :: nm :: r :: rest) = .error 21) := fun h h2 => depE_no h (by rw [hpq]; exact h2)
  have Hok : Hid ((nameB nm && behind prev nm) = true → pe = 0 → pl ≠ [] → depE prev (a :: nm :: r :: rest) = .ok ⟨nm, pl⟩) := fun h h2 h3 => by
    have := depE_ok (prev := prev) (a := a) (nm := nm) (r := r) (rest := rest) h (by rw [hpq]; exact h2) (by rw [hpq]; exact h3)
    rw [hpq] at this
    exact this
  clear hpq
  obtain ⟨DE, hDE⟩ : ∃ DE, depE prev (a :: nm :: r :: rest) = DE := ⟨_, rfl⟩
  rw [hDE] at Hbad Hno Hok
  have HDE := Lib.hid hDE
  have hn3 : 3 ≤ n := by omega
  have hn9 : n ≤ 1000000 := by rw [hnx]; exact hn
  have Hlen := Lib.hid hlen
  have Hjz := Lib.hid hjz
  have hcase : (nameB nm = false ∧ DE = .error 23) ∨ (nameB nm = true ∧ last = ⟨#[]⟩ ∧ (nameB nm && behind prev nm) = true) ∨ (nameB nm = true ∧ last ≠ ⟨#[]⟩ ∧ lessB last nm = false ∧ DE = .error 23) ∨ (nameB nm = true ∧ last ≠ ⟨#[]⟩ ∧ lessB last nm = true ∧ (nameB nm && behind prev nm) = true) := by
    cases h1 : nameB nm
    · exact .inl ⟨rfl, Hbad.out (by rw [h1]; rfl)⟩
    · rcases hp with ⟨rfl, h2⟩ | ⟨rfl, h2⟩
      · exact .inr (.inl ⟨rfl, h2, rfl⟩)
      · cases h3 : lessB last nm
        · exact .inr (.inr (.inl ⟨rfl, h2, rfl, Hbad.out (by rw [h1]; exact h3)⟩))
        · exact .inr (.inr (.inr ⟨rfl, h2, rfl, h3⟩))
  clear hx hz hlen hn hjz hnx hDE hp hrz
  have hI : ¬ (n : Int) < 3 := by omega
  have hn1 : (1 : Int) < (n : Int) := by omega
  have hn2 : (2 : Int) < (n : Int) := by omega
  go_enter Tryz.func89, Tryz.ntmps89
  go_wp2_with fail
  obtain ⟨w1, hw1⟩ : ∃ w1, w1 = w.alloc (.cells #[.string ⟨#[]⟩, .slice none 0 0] 38) := ⟨_, rfl⟩
  have hr1 : w1.heap[w.heap.size]? = some (.cells #[.string ⟨#[]⟩, .slice none 0 0] 38 (0, 0)) := by rw [hw1]; exact heap_alloc_new w _
  have HB1 : Hid (Below w.heap.size w w1) := by unfold Hid; rw [hw1]; exact bal (Below.refl _ _) _
  have hz1 : w.heap.size < w1.heap.size := (Array.getElem?_eq_some_iff.1 hr1).1
  rw [← hw1]
  have Hr1 := Lib.hid hr1
  have Hz1 := Lib.hid hz1
  clear hw1 hr1 hz1
  refine (HN.out w1).mono ?_
  rintro e w2 ⟨rfl, hb2⟩
  have HB2 := Lib.hid (bot HB1.out hb2)
  have Hr2 := Lib.hid ((hb2.block _ Hz1.out).trans Hr1.out)
  have Hz2 := Lib.hid (Nat.lt_of_lt_of_le Hz1.out hb2.size)
  have c1 := below_cell HB2.out e1 hbl
  clear hb2 HB1 Hr1 Hz1 HN Hbad
  rcases hcase with ⟨h1, hd⟩ | ⟨h1, hl, hg⟩ | ⟨h1, hl, hlt, hd⟩ | ⟨h1, hl, hlt, hg⟩
  · subst hd
    rw [h1]
    obtain ⟨⟨d0, d1⟩, f0, f1⟩ := row2 Hr2.out
    clear h1 HL Hno Hok
    go_wp2_with fail
    refine ret_rk rfl rfl rfl rfl (heap_set2 Hr2.out _ _) Tryz.underlying38 rfl (by kernel_rfl) ⟨?_, .inl ⟨_, HDE.out, rfl⟩⟩
    exact (HB2.out.setCell (Nat.le_refl _) _).setCell (Nat.le_refl _) _
  rotate_left
  · subst hd
    rw [h1]
    rw [hlt] at HL
    have hle : last.toList.isEmpty = false := by
      rw [Go.ByteArray.toList_eq]
      cases h : last.data.toList with
      | nil => exact absurd (data_inj (b := ⟨#[]⟩) h) hl
      | cons _ _ => rfl
    clear h1 hl hlt Hno Hok
    go_wp2_with fail
    refine (HL.out w2).mono ?_
    rintro e w3 ⟨rfl, hb3⟩
    have HB3 := Lib.hid (bot HB2.out hb3)
    have Hr3 := Lib.hid ((hb3.block _ Hz2.out).trans Hr2.out)
    obtain ⟨⟨d0, d1⟩, f0, f1⟩ := row2 Hr3.out
    clear hb3
    go_wp2_with fail
    refine ret_rk rfl rfl rfl rfl (heap_set2 Hr3.out _ _) Tryz.underlying38 rfl (by kernel_rfl) ⟨?_, .inl ⟨_, HDE.out, rfl⟩⟩
    exact (HB3.out.setCell (Nat.le_refl _) _).setCell (Nat.le_refl _) _
  focus
    rw [h1]
    rw [hlt] at HL
    have hle : last.toList.isEmpty = false := by
      rw [Go.ByteArray.toList_eq]
      cases h : last.data.toList with
      | nil => exact absurd (data_inj (b := ⟨#[]⟩) h) hl
      | cons _ _ => rfl
    have Hno' := Lib.hid (Hno.out hg)
    have Hok' := Lib.hid (Hok.out hg)
    clear h1 hl hlt Hno Hok hg
    go_wp2_with fail
    refine (HL.out w2).mono ?_
    rintro e w3 ⟨rfl, hb3⟩
    have HB3 := Lib.hid (bot HB2.out hb3)
    have Hr3 := Lib.hid ((hb3.block _ Hz2.out).trans Hr2.out)
    have Hz3 := Lib.hid (Nat.lt_of_lt_of_le Hz2.out hb3.size)
    have c2 := below_cell HB3.out e2 hbl
    clear hb3 HB2 Hr2 Hz2 HL hle c1
  rotate_left
  focus
    rw [h1]
    have hle : last.toList.isEmpty = true := by rw [hl, Go.ByteArray.toList_eq]; rfl
    have Hno' := Lib.hid (Hno.out hg)
    have Hok' := Lib.hid (Hok.out hg)
    obtain ⟨w3, hw3⟩ : ∃ w3, w3 = w2 := ⟨_, rfl⟩
    have HB3 := HB2
    have Hr3 := Hr2
    have Hz3 := Hz2
    rw [← hw3] at HB3 Hr3 Hz3 ⊢
    have c2 := below_cell HB3.out e2 hbl
    clear h1 hl Hno Hok hg hw3 HB2 Hr2 Hz2 HL c1
  all_goals
    go_wp2_with fail
    go_loop [6, 7] (fun s i => ∃ k : Nat, k ≤ rest.length ∧ i = .int .i64 ((k + 3 : Nat) : Int) ∧ s = .string (joinS ((r :: rest).take (k + 1)))) (fun _ i => n - (intOf i).toNat)
    case atStart => exact ⟨0, Nat.zero_le _, rfl, by rw [List.take_succ_cons, List.take_zero, joinS_one]⟩
    case round =>
      obtain ⟨k, hk, rfl, rfl⟩ := hrel
      by_cases hlt : k < rest.length
      · have ck := below_cell HB3.out (HC.out k hlt) hbl
        have hst := joinS_take (r := r) hlt
        have hsz := joinS_take_le r rest (k + 1)
        rw [hst] at hsz
        simp only [ByteArray.size_append] at hsz
        have Hst := Lib.hid hst
        generalize rest[k] = x at *
        generalize joinS ((r :: rest).take (k + 1)) = s at *
        have z1 : (⟨#[32]⟩ : ByteArray).size = 1 := rfl
        have hjz := Hjz.out
        have E1 : ∀ W : World, (Op.stringOp .add s ⟨#[32]⟩).run Tryz.prog W = .ok (.string (s ++ ⟨#[32]⟩)) W := fun W => run_string_add_sum W s ⟨#[32]⟩ (by omega)
        have E2 : ∀ W : World, (Op.stringOp .add (s ++ ⟨#[32]⟩) x).run Tryz.prog W = .ok (.string (s ++ ⟨#[32]⟩ ++ x)) W := fun W => run_string_add_sum W _ x (by simp only [ByteArray.size_append]; omega)
        have hkn : ((k + 3 : Nat) : Int) < (n : Int) := by have := Hlen.out; omega
        have hk0 : (0 : Int) ≤ ((k + 3 : Nat) : Int) := by omega
        have hkw : IntKind.i64.wrap (((k + 3 : Nat) : Int) + 1) = ((k + 1 + 3 : Nat) : Int) := by rw [IntWalk.i64_in _ ⟨by omega, by omega⟩]; omega
        have hm : n - (k + 1 + 3) < n - (k + 3) := by have := Hlen.out; omega
        clear hst hsz z1 hjz
        go_wp2_with fail
        go_round
        case rel => exact ⟨k + 1, hlt, rfl, by rw [Hst.out]⟩
        case measure => simp [intOf]; omega
      · obtain rfl : k = rest.length := by omega
        have hkn : ¬ ((rest.length + 3 : Nat) : Int) < (n : Int) := by have := Hlen.out; omega
        have htk : (r :: rest).take (rest.length + 1) = r :: rest := List.take_of_length_le (by simp)
        rw [htk]
        clear htk
        generalize joinS (r :: rest) = JS at *
        go_wp2_with fail
        refine (HP.out w3).mono ?_
        rintro e w4 ⟨v4, rfl, hs4, hb4⟩
        have HB4 := Lib.hid (bot HB3.out hb4)
        have hr4 := (hb4.block _ Hz3.out).trans Hr3.out
        obtain ⟨⟨d0, d1⟩, f0, f1⟩ := row2 hr4
        have Hr4 := Lib.hid hr4
        obtain ⟨A4, c4, rfl, hcl4, hcm4⟩ := hs4.val
        have Hs4 := Lib.hid hs4
        have e4 := below_cell HB4.out e1 hbl
        clear hb4 hs4 HB3 Hr3 HP hr4 e1 e2 c2 HC hkn
        unfold maxLen at hcm4
        by_cases hpe : pe = 0
        case neg =>
          have hd := Hno'.out (.inl hpe)
          subst hd
          have hbe : (pe != 0) = true := by simpa using hpe
          clear hpe Hno' Hok' Hs4 Hz3
          go_wp2_with fail
          refine ret_rk rfl rfl rfl rfl (heap_set2 Hr4.out _ _) Tryz.underlying38 rfl (by kernel_rfl) ⟨?_, .inl ⟨_, HDE.out, rfl⟩⟩
          exact (HB4.out.setCell (Nat.le_refl _) _).setCell (Nat.le_refl _) _
        by_cases hpl : pl = []
        · have hd := Hno'.out (.inr hpl)
          subst hd hpe hpl
          clear Hno' Hok' Hs4 Hz3
          go_wp2_with fail
          refine ret_rk rfl rfl rfl rfl (heap_set2 Hr4.out _ _) Tryz.underlying38 rfl (by kernel_rfl) ⟨?_, .inl ⟨_, HDE.out, rfl⟩⟩
          exact (HB4.out.setCell (Nat.le_refl _) _).setCell (Nat.le_refl _) _
        · have hd := Hok'.out hpe hpl
          subst hd hpe
          have hnl : 0 < pl.length := List.length_pos_iff.2 hpl
          obtain ⟨m4, hm4⟩ : ∃ m, m = pl.length := ⟨_, rfl⟩
          rw [← hm4] at Hs4 hcl4 hnl ⊢
          have hml : ((m4 : Int) == 0) = false := by rw [beq_eq_false_iff_ne]; omega
          clear hpl Hno' Hok' hm4 hnl
          go_wp2_with fail
          refine ret_rk rfl rfl rfl rfl (heap_set2 Hr4.out _ _) Tryz.underlying38 rfl (by kernel_rfl) ⟨?_, .inr ⟨⟨nm, pl⟩, _, HDE.out, rfl, ?_⟩⟩
          · exact (HB4.out.setCell (Nat.le_refl _) _).setCell (Nat.le_refl _) _
          · have hz3 := Hz3.out
            refine (SlV.keep Hs4.out fun b hb hl => ?_).more fun b hb _ => Nat.le_trans (Nat.le_of_lt hz3) hb
            have hne : b ≠ w.heap.size := by omega
            exact (Below.heap_setCell _ _ _ b hne).trans (Below.heap_setCell _ _ _ b hne)
end Go.Proofs.YtldjldkejjeamaaGreatDoor
set_option autoImplicit false
set_option relaxedAutoImplicit false
set_option linter.unusedVariables false
set_option linter.unusedSimpArgs false
namespace Go.Proofs.YtldjldkejjeamaaGreatDoor
open Go.Rows Go.RowKit Go.Shelf Go.Sort

theorem range_const {α : Type} (x : α) : ∀ m, (List.range m).map (fun _ => x) = List.replicate m x := by
  intro m
  apply List.ext_getElem?
  intro i
  by_cases h : i < m
  · rw [List.getElem?_map, List.getElem?_range h, List.getElem?_replicate, if_pos h]; rfl
  · rw [List.getElem?_eq_none (by simpa using h), List.getElem?_eq_none (by simpa using h)]
theorem partsAt_made {w1 : World} {base g m : Nat} {t : TypeId} {x : Value} (h : w1.ownsRow base t 1 (.slice (some ⟨g, 0, none⟩) m m) m (List.replicate m x)) : PartsAt g [] t m w1 (fun _ => x) := by
  rcases h.2 with ⟨e, _⟩ | ⟨g', cap, cur, e, _, hg, _, _, hsz, htake⟩
  · cases e
  · simp only [Value.slice.injEq, Option.some.injEq, Addr.mk.injEq, true_and, and_true] at e
    obtain ⟨rfl, rfl⟩ := e
    rw [Nat.mul_one] at hsz htake
    unfold PartsAt
    rw [hg]
    have : cur = cellsP [] m (fun _ => x) := by
      apply Array.ext'
      unfold cellsP
      show _ = [] ++ (List.range m).map (fun _ => x)
      rw [List.nil_append, range_const, ← htake, List.take_of_length_le (by simp; omega)]
    rw [this]
theorem idxGo_end {l : List ByteArray} {x : ByteArray} {k : Nat} (h : l.length ≤ k) : idxGo (l.drop k) x = none := by
  rw [List.drop_eq_nil_of_le h]; rfl

/-- what the document's reader of all lines answers -/
def ListsW (L0 : Except Int (List (List Dep))) (m : Nat) (w : World) (e : Ending) (w' : World) : Prop :=
  Below w.heap.size w w' ∧ ((∃ k, k ≠ 0 ∧ L0 = .error k ∧ e = .returned (.tuple #[.slice none 0 0, .int .i64 k])) ∨
      (∃ P v l, L0 = .ok (rm m l) ∧ e = .returned (.tuple #[.slice (some ⟨P, 0, none⟩) m m, .int .i64 0]) ∧ w.heap.size ≤ P ∧ PartsAt P [] 24 m w' v ∧ ∀ j, j < m → SlV rDep w' (fun b => w.heap.size ≤ b) (l j) (v j)))

set_option maxHeartbeats 8000000 in
set_option maxRecDepth 100000 in
theorem refLists_any (lines : List (List ByteArray)) (order : List ByteArray) (A : Option Addr) (n c : Nat) (A2 : Option Addr) (m c2 : Nat) (w : World) (S T : Nat → Prop) (hl : SlV (rSlice rStr) w S lines (.slice A n c)) (ho : SlV rStr w T order (.slice A2 m c2)) (hm0 : 0 < order.length) (hm9 : order.length ≤ 100) (hn9 : lines.length ≤ 100000)
    (hb : ∀ ws ∈ lines, ws ≠ [] ∧ ws.length ≤ 1000000 ∧ (joinS ws).size ≤ 1000000) :
    Calls Tryz.prog 53 #[.slice A n c, .slice A2 m c2] w (ListsW (listsE order lines (0, rm m fun _ => [])) m w) := by
  have hnx := hl.n_eq
  have hmx := ho.n_eq
  have hl' := hl.more (S' := fun b => b < w.heap.size) fun b _ h => h
  have ho' := ho.more (S' := fun b => b < w.heap.size) fun b _ h => h
  rw [← hmx] at hm0 hm9
  rw [← hnx] at hn9
  have HL := Lib.hid hl'
  have HO := Lib.hid ho'
  have Hn := Lib.hid hnx
  have Hm := Lib.hid hmx
  have HB := Lib.hid hb
  clear hl ho hl' ho' hnx hmx hb
  obtain ⟨L0, hL0⟩ : ∃ L0, L0 = listsE order lines (0, rm m fun _ => []) := ⟨_, rfl⟩
  have HL0 : Hid (L0 = listsE order (lines.drop 0) (0, rm m fun _ => [])) := by unfold Hid; rw [hL0, List.drop_zero]
  rw [← hL0]
  clear hL0
  obtain ⟨i, hi, hiz, hsz, hby⟩ := info_parts (P := Tryz.prog) (e := 24) (show (Tryz.prog.info? 24).map (fun i => (i.zero, i.size, i.bytes)) = some (some (.slice none 0 0), 1, 24) by kernel_rfl)
  go_enter Tryz.func53, Tryz.ntmps53
  go_wp2_with (at_make; refine wpList_make_full w (by rfl) _ _ _ (by rfl) w.heap.size 24 i _ 1 Tryz.underlying69 hi hiz hsz .i64 .i64 _ _ m (by rfl) (by rfl) rfl rfl (by rw [hby]; omega) (by unfold maxLen; omega) (Nat.le_refl _) ?_)
  intro w1 hown hgrow
  rw [toList_madeCells_one] at hown
  have HPa0 := Lib.hid (partsAt_made hown)
  have HB1 : Hid (Below w.heap.size w w1) := (Below.refl _ _).grown hgrow (Nat.le_refl _) (fun k hk => by cases hk)
  have hz1 : w.heap.size < w1.heap.size := HPa0.out.lt
  clear hown hgrow hi hiz hsz hby
  go_wp2_with fail
  go_loopw [7, 8] (fun a i wr => ∃ (k aN : Nat) (v : Nat → Value) (l : Nat → List Dep) (S : Nat → Prop), k ≤ n ∧ aN < m ∧ a = .int .i64 aN ∧ i = .int .i64 k ∧ Hid (L0 = listsE order (lines.drop k) (aN, rm m l)) ∧ Hid (∀ j, j < m → (l j).length ≤ k ∧ ∀ d ∈ l j, nameB d.name = true) ∧ Hid (PartsR m w1.heap.size wr v l S) ∧ Hid (PartsAt w.heap.size [] 24 m wr v) ∧ Hid (Turn (fun j => j = w.heap.size) w1 wr)) (fun _ i _ => n - (intOf i).toNat)
  case atStart => exact ⟨0, 0, _, _, _, Nat.zero_le _, hm0, rfl, rfl, HL0, fun _ _ => ⟨Nat.le_refl _, fun d hd => by cases hd⟩, PartsR.nil m _ _, HPa0, Turn.refl _ _⟩
  case round =>
    clear HPa0 HL0
    obtain ⟨k, aN, v, l, S, hk, haN, rfl, rfl, HLk, Hlen, HPi, HPa, HT⟩ := hrel
    have HBr : Hid (Below w.heap.size w wr) := HB1.out.trans (HT.out.below (Nat.le_of_lt hz1) (fun q hq => by rw [hq]; exact Nat.le_refl _))
    have hzr : w1.heap.size ≤ wr.heap.size := HT.out.size
    have hk0 : (0 : Int) ≤ (k : Int) := by omega
    by_cases hlt : k < n
    case neg =>
      obtain rfl : k = n := by omega
      have hI : ¬ (k : Int) < (k : Int) := by omega
      have hq := HLk.out
      rw [List.drop_eq_nil_of_le (by have := Hn.out; omega), listsE] at hq
      subst hq
      clear HLk Hlen
      go_wp2_with fail
      go_ret2
      refine ⟨HBr.out, .inr ⟨w.heap.size, v, l, rfl, rfl, Nat.le_refl _, HPa.out, fun j hj => ?_⟩⟩
      refine (HPi.out.1 j hj).slv.more fun b hb _ => ?_
      rcases hb with hb | hb
      · have := HPi.out.2.1 b hb; omega
      · omega
    have hkI : (k : Int) < (n : Int) := by omega
    have hkx : k < lines.length := by have := Hn.out; omega
    have HLw := Lib.hid (HL.out.belowSize HBr.out)
    obtain ⟨b0, o0, rfl, _, hb0⟩ := HL.out.at (by omega)
    obtain ⟨Aw, cw, cx0, hsw⟩ := HL.out.row (i := k) (List.getElem?_eq_getElem hkx)
    obtain ⟨hne, hwl, hwj⟩ := HB.out lines[k] (List.getElem_mem hkx)
    have Hat := Lib.hid (fun st => lists_at (order := order) (st := st) (List.getElem?_eq_getElem hkx))
    generalize lines[k] = ws at *
    cases ws with
    | nil => exact absurd rfl hne
    | cons h tl =>
    obtain ⟨bw, ow, rfl, _, hbw⟩ := hsw.at (by simp)
    obtain ⟨ch0, hhz⟩ := hsw.str (i := 0) (x := h) rfl
    rw [Nat.add_zero] at ch0
    obtain ⟨b2, o2, rfl, _, hb2⟩ := HO.out.at (by have := Hm.out; omega)
    have Hsw := Lib.hid hsw
    have Hne := Lib.hid hne
    have Hwj := Lib.hid hwj
    have Hwl := Lib.hid hwl
    have hI0 : Hid (idxGo (order.drop aN) h = (idxGo (order.drop aN) h).map (· + (aN - aN))) := by unfold Hid; rw [Nat.sub_self]; simp
    have htl : 0 < tl.length + 1 := by omega
    have ha0 : (0 : Int) ≤ (aN : Int) := by omega
    clear hne hwj hwl hsw hhz
    obtain ⟨wo, hwo⟩ : ∃ wo : World, wo = wr := ⟨_, rfl⟩
    subst hwo
    go_wp2_with fail
    go_loopw [9] (fun t wi => ∃ p : Nat, aN ≤ p ∧ p ≤ m ∧ t = .int .i64 p ∧ Hid (idxGo (order.drop aN) h = (idxGo (order.drop p) h).map (· + (p - aN))) ∧ Hid (Below wo.heap.size wo wi)) (fun t _ => m - (intOf t).toNat)
    case atStart => exact ⟨aN, Nat.le_refl _, by omega, rfl, hI0, Below.refl _ _⟩
    case round =>
      clear hI0
      obtain ⟨p, hap, hpm, rfl, HI, HBi⟩ := hrel
      have HBw := Lib.hid (bot HBr.out HBi.out)
      have cx := below_cell HBw.out cx0 hb0
      have ch := below_cell HBw.out ch0 hbw
      have hp0 : (0 : Int) ≤ (p : Int) := by omega
      by_cases hpl : p < m
      case neg =>
        obtain rfl : p = m := by omega
        have hpI : ¬ (p : Int) < (p : Int) := by omega
        have hqn : idxGo (order.drop aN) h = none := by rw [HI.out, idxGo_end (by have := Hm.out; omega)]; rfl
        have hq := (HLk.out.trans (Hat.out _)).trans (lists_none (ws := lines.drop (k + 1)) (w := h :: tl) (n := p) (l := l) hqn)
        subst hq
        clear HI hqn HLk Hat
        have r_cx := cell_regrown cx
        have r_ch := cell_regrown ch
        go_wp2_with fail
        refine wp_region_qb (by kernel_rfl) (by kernel_rfl) ?_
        repeat (go_big_quiet_step (first | fail))
        refine wpQuiet_nil ?_
        intro wq Bq
        have HBq := Lib.hid (bot HBw.out Bq)
        clear Bq r_cx r_ch
        go_wp2_with fail
        go_ret2
        exact ⟨HBq.out, .inl ⟨22, by decide, rfl, rfl⟩⟩
      have hpI : (p : Int) < (m : Int) := by omega
      have hpx : p < order.length := by have := Hm.out; omega
      obtain ⟨co0, _⟩ := HO.out.str (i := p) (x := order[p]) (List.getElem?_eq_getElem hpx)
      have co := below_cell HBw.out co0 hb2
      have Hhit := Lib.hid (fun e => idxGo_hit (x := h) hpx e)
      have Hmiss := Lib.hid (fun e => idxGo_miss (x := h) hpx e)
      clear co0
      generalize order[p] = y at *
      by_cases hy : y = h
      case neg =>
        have hbe := beq_false hy
        have Hnx : Hid (idxGo (order.drop aN) h = (idxGo (order.drop (p + 1)) h).map (· + (p + 1 - aN))) := by
          unfold Hid
          rw [HI.out, Hmiss.out hy, Option.map_map]
          congr 1
          funext j
          simp; omega
        clear HI Hhit Hmiss hy
        have r_cx := cell_regrown cx
        have r_ch := cell_regrown ch
        have r_co := cell_regrown co
        go_wp2_with fail
        refine wp_region_qb (by kernel_rfl) (by kernel_rfl) ?_
        repeat (go_big_quiet_step (first | fail))
        refine wpQuiet_nil ?_
        intro wq Bq
        have HBq := Lib.hid (bot HBi.out Bq)
        clear Bq r_cx r_ch r_co
        go_wp2_with fail
        go_roundw
        case rel => exact ⟨p + 1, by omega, by omega, by go_num, Hnx, HBq⟩
        case measure => simp [intOf]; omega
      have hbe := beq_true hy
      have hqs : idxGo (order.drop aN) h = some (p - aN) := by rw [HI.out, Hhit.out hy]; simp
      have hap2 : aN + (p - aN) = p := by omega
      have Hok := Lib.hid (fun d (hd : depE (lastN (l (aN + (p - aN)))) (h :: tl) = .ok d) => (HLk.out.trans (Hat.out _)).trans (lists_ok (n := m) (l := l) (ws := lines.drop (k + 1)) (w := h :: tl) hqs (by omega) hd))
      have Herr := Lib.hid (fun e (hd : depE (lastN (l (aN + (p - aN)))) (h :: tl) = .error e) => (HLk.out.trans (Hat.out _)).trans (lists_err (n := m) (l := l) (ws := lines.drop (k + 1)) (w := h :: tl) hqs (by omega) hd))
      rw [hap2] at Hok Herr
      have hpe : ((p : Int) == (m : Int)) = false := by rw [beq_eq_false_iff_ne]; omega
      clear HI Hhit Hmiss hqs hap2 HLk Hat
      have r_cx := cell_regrown cx
      have r_ch := cell_regrown ch
      have r_co := cell_regrown co
      go_wp2_with fail
      refine wp_region_qb (by kernel_rfl) (by kernel_rfl) ?_
      repeat (go_big_quiet_step (first | fail))
      refine wpQuiet_nil ?_
      intro wq Bq
      clear r_cx r_ch r_co cx ch co hbe hy
      have Bo := bot HBi.out Bq
      have HPiq := Lib.hid (HPi.out.keep Bo)
      have HPaq := Lib.hid (HPa.out.keep Bo)
      have HTq := Lib.hid (HT.out.trans (Turn.of_below Bo))
      have HBq := Lib.hid (bot HBr.out Bo)
      have hvj := (HPiq.out.1 p hpl).slv
      obtain ⟨Ad, cd, hve, hc1, hc2⟩ := hvj.val
      have hp4 := HPaq.out.cell hpl
      rw [hve] at hvj hp4
      simp only [List.length_nil, Nat.zero_add] at hp4
      have Hvj := Lib.hid hvj
      have Hve := Lib.hid hve
      obtain ⟨hlj, hnmj⟩ := Hlen.out p hpl
      have Hnmj := Lib.hid hnmj
      have cxq := below_cell HBq.out cx0 hb0
      have hzq : w1.heap.size ≤ wq.heap.size := HTq.out.size
      unfold maxLen at hc2
      obtain ⟨nd, hnd⟩ : ∃ nd, nd = (l p).length := ⟨_, rfl⟩
      rw [← hnd] at hp4 Hvj Hve hlj hc1
      have Hnd := Lib.hid hnd
      clear hvj hve hnmj Bo Bq HPi HPa HT HBr HBi HBw hnd
      have HD : Hid (∀ last W, Below wq.heap.size wq W → ((lastN (l p) = none ∧ last = ⟨#[]⟩) ∨ (lastN (l p) = some last ∧ last ≠ ⟨#[]⟩)) → last.size ≤ maxLen → Calls Tryz.prog 89 #[.slice (some ⟨bw, ow, none⟩) (tl.length + 1) cw, .string last] W (DepW (lastN (l p)) (h :: tl) W)) := fun last W hW hp hls =>
        refDep_any (lastN (l p)) last (h :: tl) _ _ cw W _ (Hsw.out.belowSize (bot HBq.out hW)) Hwj.out Hwl.out hp hls
      have hcase : (nd = 0 ∧ lastN (l p) = none) ∨ (∃ q : Nat, ∃ bd od pn, nd = q + 1 ∧ Ad = some ⟨bd, od, none⟩ ∧ bd < wq.heap.size ∧ wq.cell? ⟨bd, od + q * 2, none⟩ = some (.string pn) ∧ lastN (l p) = some pn ∧ pn ≠ ⟨#[]⟩ ∧ pn.size ≤ maxLen) := by
        by_cases h2 : nd = 0
        · refine .inl ⟨h2, ?_⟩
          rw [List.eq_nil_of_length_eq_zero (by have := Hnd.out; omega : (l p).length = 0)]; rfl
        · have hql : nd - 1 < (l p).length := by have := Hnd.out; omega
          refine .inr ⟨nd - 1, ?_⟩
          obtain ⟨b', o', cs', hA', _, hbl', ⟨s1, rfl, hnm', _⟩, hcell'⟩ := Hvj.out.elem (i := nd - 1) (List.getElem?_eq_getElem hql)
          have e0 := hcell' 0 _ rfl
          simp only [rDep, Nat.add_zero] at e0
          refine ⟨b', o', _, by omega, hA', hbl', e0, lastN_at (k := nd - 1) (by have := Hnd.out; omega), fun e => ?_, hnm'⟩
          have := Hnmj.out _ (List.getElem_mem hql)
          rw [e] at this
          exact absurd this (by decide)
      rcases hcase with ⟨rfl, hln⟩ | ⟨q, bd, od, pn, rfl, rfl, hbd, hpc, hln, hpne, hpz⟩
      focus
        have HDl := Lib.hid (HD.out ⟨#[]⟩ wq (Below.refl _ _) (.inl ⟨hln, rfl⟩) (by decide))
        obtain ⟨wl, hwl⟩ : ∃ wl, wl = wq := ⟨_, rfl⟩
        rw [← hwl] at HDl HPiq HPaq HTq HBq Hvj cxq hzq hp4 ⊢
        clear hwl HD hln
        go_upto_region 15 with (fail)
      rotate_left
      focus
        have hlw : IntKind.i64.wrap (((q + 1 : Nat) : Int) - 1) = (q : Int) := (IntWalk.i64_in _ ⟨by omega, by omega⟩).trans (by omega)
        have hlw2 : IntKind.i64.wrap ((q : Int) + 1 - 1) = (q : Int) := (IntWalk.i64_in _ ⟨by omega, by omega⟩).trans (by omega)
        have hq0 : (0 : Int) ≤ (q : Int) := by omega
        have hq1 : (0 : Int) < (q : Int) + 1 := by omega
        have hq3 : (q : Int) < (q : Int) + 1 := by omega
        have HD' := Lib.hid (fun W hW => HD.out pn W hW (.inr ⟨hln, hpne⟩) hpz)
        clear HD hln hpne
        go_wp2_with fail
        have r_hp4 := cell_regrown hp4
        have r_hpc := cell_regrown hpc
        go_wp2_with fail
        refine wp_region_qb (by kernel_rfl) (by kernel_rfl) ?_
        repeat (go_big_quiet_step (first | fail))
        refine wpQuiet_nil ?_
        intro wl Bl
        have HDl := Lib.hid (HD'.out wl Bl)
        have Hvj := Lib.hid (Hvj.out.belowSize Bl)
        have HPiq := Lib.hid (HPiq.out.keep Bl)
        have HPaq := Lib.hid (HPaq.out.keep Bl)
        have HTq := Lib.hid (HTq.out.trans (Turn.of_below Bl))
        have hb0q := Nat.lt_of_lt_of_le hb0 HBq.out.size
        have HBq := Lib.hid (bot HBq.out Bl)
        have cxq := below_cell Bl cxq hb0q
        have hp4 := below_cell Bl hp4 (cell_lt hp4)
        have hzq : w1.heap.size ≤ wl.heap.size := HTq.out.size
        clear HD' hlw hlw2 hq0 hq1 hq3 r_hp4 r_hpc Bl hpc hb0q
        go_upto_region 15 with (fail)
      rotate_left
      all_goals
        go_wp2_with fail
        refine HDl.out.mono ?_
        rintro e wb ⟨hbd9, (⟨e', hd, rfl⟩ | ⟨d, vr, hd, rfl, hsd⟩)⟩
        · have hq := Herr.out e' hd
          have he0 := depE_err hd
          have hbe : (e' != 0) = true := by rw [bne_iff_ne]; exact he0
          have He0 := Lib.hid he0
          have HBf : Hid (Below w.heap.size w wb) := Lib.hid (bot HBq.out hbd9)
          subst hq
          clear hbd9 hd Hok Herr he0
          go_wp2_with fail
          go_ret2
          exact ⟨bal HBf.out _, .inl ⟨_, He0.out, rfl, rfl⟩⟩
        · obtain ⟨Ar, cr, rfl, _, _⟩ := hsd.val
          obtain ⟨nr, hnr⟩ : ∃ nr, nr = d.range.length := ⟨_, rfl⟩
          rw [← hnr] at hsd ⊢
          have hnm := depE_name hd
          have Hnx := Lib.hid (Hok.out d hd)
          have Hnm := Lib.hid hnm
          clear hnr hd Herr Hok hnm
          obtain ⟨dn, dr⟩ := d
          simp only at hsd Hnm ⊢
          go_upto_region 18 with (fail)
          obtain ⟨wc, hwc⟩ : ∃ wc, wc = wb.alloc (.cells #[.string dn, .slice Ar nr cr] 38) := ⟨_, rfl⟩
          have hbc : Below wb.heap.size wb wc := by rw [hwc]; exact bal (Below.refl _ _) _
          have hcc : wc.heap[wb.heap.size]? = some (.cells #[.string dn, .slice Ar nr cr] 38 (0, 0)) := by rw [hwc]; exact heap_alloc_new wb _
          rw [← hwc]
          obtain ⟨⟨g0, g1⟩, _⟩ := row2 hcc
          have HPm := Lib.hid ((HPiq.out.more hbd9 hzq).keep hbc)
          have hbac : Below wl.heap.size wl wc := bot hbd9 hbc
          have HPac := Lib.hid (HPaq.out.keep hbac)
          have HTc := Lib.hid (HTq.out.trans (Turn.of_below hbac))
          have hp4 := below_cell hbac hp4 (cell_lt hp4)
          have hfz := HPac.out.free p
          have hszb := hbd9.size
          have Hh : Hid (rDep.holds wc (fun b => S b ∨ (wl.heap.size ≤ b ∧ b < wb.heap.size)) ⟨dn, dr⟩ [.string dn, .slice Ar nr cr]) := ⟨_, rfl, Nat.le_trans (nameB_size Hnm.out) (by decide), (hsd.more (S' := fun b => S b ∨ (wl.heap.size ≤ b ∧ b < wb.heap.size)) (fun b hb hlt => .inr ⟨hb, hlt⟩)).belowSize hbc⟩
          have Hown := Lib.hid (HPm.out.1 p hpl)
          rw [Hve.out] at Hown
          have hzc : w1.heap.size ≤ wc.heap.size := HTc.out.size
          clear hwc hbd9 hbc hcc hbac HPiq HPaq HTq hsd hzq HDl cxq
          have hrow : some w.heap.size ≠ (Value.slice _ _ cd).ownBlock := fun e => by have := (Hown.out.lt _ e.symm).1; omega
          have Hrow := Lib.hid hrow
          have HP1 : Hid (w.heap.size < wc.heap.size) := by unfold Hid; omega
          have e4 := fun o => (cell_same (Below.heap_alloc wc o _ (cell_lt hp4)) _ none).trans hp4
          have eg0 := fun o => (cell_same (Below.heap_alloc wc o _ (cell_lt g0)) _ none).trans g0
          have eg1 := fun o => (cell_same (Below.heap_alloc wc o _ (cell_lt g1)) _ none).trans g1
          clear hrow hszb
          go_wp2_with fail
          go_region_law
           (first
            | (refine step_push (by rfl) _ _ _ (by rfl) elt_dep Tryz.underlying24 (by rfl) (Hown.out.drew.alloc _) ⟨wc.heap.size, 0, none⟩ 1 [.string dn, .slice Ar nr cr] ⟨dn, dr⟩ (by rfl) (Rp.alloc (Rp.drew Hh.out) _)
                  (news_of wc.drew #[.string dn, .slice Ar nr cr] _) (by rw [← Hnd.out]; unfold maxLen; omega) (by rw [← Hnd.out]; omega) (by simp; omega) (wc.heap.size + 1) (by simp) ?_; intro g6 cap6 w9 hown6 hgrow hat hg6; have hc6 := hgrow.cell ((cell_same (Below.heap_alloc wc.drew _ _ HP1.out) _ _).trans hp4) Hrow.out; have hf6 := (frozen_same ((hgrow.block _ (by simp; have := HP1.out; omega) Hrow.out).trans (Below.heap_alloc wc.drew _ _ HP1.out)) p none).trans hfz))
          all_goals
            have hg7 := hgrow
            rw [← Hve.out] at hg7 hat
            obtain ⟨s1, s2, s3⟩ := partsR_step (hd := []) hz1 HPm.out HPac.out HTc.out hpl hown6 hg7 hat
            simp only [List.length_nil, Nat.zero_add] at s1 s2 s3
            have S1 := Lib.hid s1
            have S2 := Lib.hid s2
            have S3 := Lib.hid s3
            clear s1 s2 s3 hg7 hgrow hown6 hat hc6 hf6 hp4 hfz HPm HPac HTc Hown Hh g0 g1 e4 eg0 eg1
            go_wp2_with fail
            go_roundw
            case rel =>
              refine ⟨k + 1, p, _, _, _, by omega, by omega, rfl, by go_num, Hnx, ?_, S1, S2, S3⟩
              intro j' hj'
              obtain ⟨q1, q2⟩ := Hlen.out j' hj'
              show (if j' = p then l p ++ [_] else l j').length ≤ k + 1 ∧ ∀ d ∈ (if j' = p then l p ++ [_] else l j'), nameB d.name = true
              split
              · rename_i e
                rw [e] at q1 q2
                refine ⟨by rw [List.length_append, List.length_singleton]; omega, fun d hd => ?_⟩
                rcases List.mem_append.1 hd with hd | hd
                · exact q2 d hd
                · rw [List.mem_singleton.1 hd]; exact Hnm.out
              · exact ⟨by omega, q2⟩
            case measure => simp [intOf]; omega
end Go.Proofs.YtldjldkejjeamaaGreatDoor
