/-
  The program's disk: a map of things by their paths: looked up and written.
  The program's disk: Kind, walked.
  What stands at a path, told by membership: lists of files whose paths are apart (plain).
  A disk's files, may they be loaded: plain words for both Loads.
  New disks: the program's and the document's, walked.
  The document's disk: put, walked: a file is put into the list.
-/
import Derived.Test.YthbnmehbhpakaaaGreatDoorDi27
import Derived.Test.YthbnmehbhpakaaaGreatDoorDi09
import Derived.Maps.OwnSet
import Derived.Lib.BufferMore
set_option autoImplicit false
set_option relaxedAutoImplicit false
set_option linter.unusedVariables false
set_option linter.unusedSimpArgs false
namespace Go.Proofs.YthbnmehbhpakaaaGreatDoor
open Go.Rows Go.RowKit Go.Shelf Go.Maps

/-- how a thing reads -/
def thingElem : Value → Option (DataW Unit × List MemPlace)
  | .agg cs => match cs.toList with
    | [.bool d, .string s] => some (.agg [.lit (.bool d), .lit (.string s.data.toList)], [])
    | _ => none
  | _ => none
def thingD (d : Bool) (s : ByteArray) : DataW Unit := .agg [.lit (.bool d), .lit (.string s.data.toList)]
theorem thingElem_mk (d : Bool) (s : ByteArray) : thingElem (.agg #[.bool d, .string s]) = some (thingD d s, []) := rfl
theorem thingElem_inv {v : Value} {d : Bool} {s : ByteArray} {ps : List MemPlace} (h : thingElem v = some (thingD d s, ps)) : v = .agg #[.bool d, .string s] := by
  unfold thingElem at h
  split at h
  · rename_i cs
    split at h
    · rename_i d' s' hc
      simp only [thingD, Option.some.injEq, Prod.mk.injEq, DataW.agg.injEq, List.cons.injEq, DataW.lit.injEq, Lit.bool.injEq, Lit.string.injEq, and_true] at h
      obtain ⟨⟨rfl, h2⟩, _⟩ := h
      rw [← data_inj h2]
      congr 1
      exact Array.ext' hc
    · cases h
  · cases h
theorem thing_zero (w : World) : (zeroValue 111).run Tryz.prog w = .ok (.agg #[.bool false, .string ⟨#[]⟩]) w := by kernel_rfl
/-- what stands at a path in a list: is something; a directory; the text -/
def thingAt (l : List File) (p : ByteArray) : Option File := (findF l p).bind (l[·]?)
def dirAt (l : List File) (p : ByteArray) : Bool := match thingAt l p with | none => false | some f => f.dir
def dataAt (l : List File) (p : ByteArray) : ByteArray := match thingAt l p with | none => ⟨#[]⟩ | some f => f.data
/-- the map holds what the list holds -/
def ThingsM (w : World) (B : Nat) (l : List File) : Prop :=
  ∃ (n : Nat) (D : DataW Unit), w.ownsMap Tryz.prog 9 thingElem B n D ∧ n ≤ l.length ∧ IsMap D ∧ ∀ p : ByteArray, Maps.has D (.string p.data.toList) = (thingAt l p).isSome ∧
    ∀ zd, D.atKey (.string p.data.toList) zd = match thingAt l p with | none => zd | some f => thingD f.dir f.data
theorem ThingsM.made (w : World) : ThingsM (w.alloc (.map #[] 0)) w.heap.size [] :=
  ⟨0, .map [], World.ownsMap_made _ _ _ _, Nat.le_refl _, isMap_empty, fun p => ⟨rfl, fun zd => rfl⟩⟩
theorem ThingsM.kept {w w' : World} {B : Nat} {l : List File} {row : Option Nat} (h : ThingsM w B l) (hg : w.grownBy w' row) (hne : some B ≠ row) : ThingsM w' B l := by
  obtain ⟨n, D, h1, h2⟩ := h
  exact ⟨n, D, h1.kept hg hne, h2⟩
theorem ThingsM.keep {w w' : World} {B : Nat} {l : List File} (h : ThingsM w B l) (hb : Below w.heap.size w w') : ThingsM w' B l :=
  h.kept (row := none) ⟨hb.os, hb.tape, hb.output, hb.size, fun k hk _ => hb.block k hk⟩ (by simp)
/-- a path looked up -/
theorem ThingsM.look {W : World} {B : Nat} {l : List File} {p : ByteArray} (h : ThingsM W B l) (hp : p.size ≤ maxLen) :
    (Instr.lookup 113 (.map (some B)) (.string p) true).run Tryz.prog W = .ok (.tuple #[.agg #[.bool (dirAt l p), .string (dataAt l p)], .bool (thingAt l p).isSome]) W := by
  obtain ⟨n, D, h1, h2, h3, h4⟩ := h
  have hkey := Go.WideMaps.keyOf_string_mk (P := Tryz.prog) Tryz.underlying9 hp
  obtain ⟨v, ps, r1, r2⟩ := h1.look_ok key_law Tryz.underlying113 (thing_zero W) (thingElem_mk false ⟨#[]⟩) hkey
  obtain ⟨q1, q2⟩ := h4 p
  rw [q1] at r1
  rw [q2] at r2
  unfold dirAt dataAt
  cases ht : thingAt l p with
  | none =>
    rw [ht] at r1 r2
    rw [thingElem_inv r2] at r1
    exact r1
  | some f =>
    rw [ht] at r1 r2
    rw [thingElem_inv r2] at r1
    exact r1
theorem findF_app (x : File) (p : ByteArray) : ∀ l : List File, findF (l ++ [x]) p = match findF l p with
    | some k => some k
    | none => if x.path = p then some l.length else none
  | [] => by
    show findF [x] p = _
    rw [findF]
    by_cases h : x.path = p
    · rw [if_pos h]; simp [findF, h]
    · rw [if_neg h]; simp [findF, h]
  | f :: t => by
    rw [List.cons_append, findF, findF]
    by_cases h : f.path = p
    · rw [if_pos h, if_pos h]
    · rw [if_neg h, if_neg h, findF_app x p t]
      cases findF t p with
      | some k => rfl
      | none =>
        by_cases e : x.path = p
        · simp [e]
        · simp [e]
theorem thingAt_app {l : List File} {x : File} {p : ByteArray} (h : findF l x.path = none) : thingAt (l ++ [x]) p = if x.path = p then some x else thingAt l p := by
  unfold thingAt
  rw [findF_app]
  by_cases e : x.path = p
  · subst e
    rw [h, if_pos rfl, if_pos rfl]
    simp
  · rw [if_neg e]
    cases hf : findF l p with
    | none => simp [e]
    | some k =>
      obtain ⟨y, hy, _⟩ := findF_some hf
      have hk := (List.getElem?_eq_some_iff.1 hy).1
      simp only [Option.bind_some]
      rw [List.getElem?_append_left hk, if_neg e]
/-- a thing written at a path at which nothing stands -/
theorem ThingsM.put {W : World} {B : Nat} {l : List File} {x : File} (h : ThingsM W B l) (hp : x.path.size ≤ maxLen) (hl : l.length ≤ 1000000000) (hno : findF l x.path = none) :
    ∃ w', (Instr.mapUpdate 113 (.map (some B)) (.string x.path) (.agg #[.bool x.dir, .string x.data])).run Tryz.prog W = .ok () w' ∧ ThingsM w' B (l ++ [x]) ∧ W.grownBy w' (some B) := by
  obtain ⟨n, D, h1, h2, h3, h4⟩ := h
  have hkey := Go.WideMaps.keyOf_string_mk (P := Tryz.prog) Tryz.underlying9 hp
  obtain ⟨w', r1, r2, r3⟩ := h1.store key_law Tryz.underlying113 (by unfold maxLen; omega) hkey (thingElem_mk x.dir x.data)
  refine ⟨w', r1, ⟨n + 1, _, r2, by simp; omega, h3.put _ _, fun p => ?_⟩, r3.grown⟩
  rw [thingAt_app hno]
  by_cases e : x.path = p
  · subst e
    rw [if_pos rfl]
    exact ⟨has_put_same h3 (by trivial) _, fun zd => atKey_put_same h3 (by trivial) _ _⟩
  · rw [if_neg e]
    have hne : (Lit.string p.data.toList) ≠ .string x.path.data.toList := fun he => e (data_inj (by simpa using he.symm))
    refine ⟨(has_put_other hne _).trans (h4 p).1, fun zd => ?_⟩
    rw [atKey_put_other hne]
    exact (h4 p).2 zd
end Go.Proofs.YthbnmehbhpakaaaGreatDoor
set_option autoImplicit false
set_option relaxedAutoImplicit false
set_option linter.unusedVariables false
set_option linter.unusedSimpArgs false
namespace Go.Proofs.YthbnmehbhpakaaaGreatDoor
open Go.Rows Go.RowKit Go.Shelf Go.Maps

theorem kindF_root {l : List File} {p : ByteArray} (h : p = slashB) : kindF l p = 2 := by unfold kindF; rw [if_pos h]
theorem kindF_at {l : List File} {p : ByteArray} (h : p ≠ slashB) : kindF l p = match thingAt l p with | none => 0 | some f => if f.dir = true then 2 else 1 := by unfold kindF thingAt; rw [if_neg h]; cases (findF l p).bind (fun x => l[x]?) <;> rfl

set_option maxHeartbeats 1600000 in
set_option maxRecDepth 100000 in
theorem diskKind_any (d B : Nat) (rv zv : Value) (l : List File) (p : ByteArray) (w : World) (hp : p.size ≤ maxLen)
    (hd : w.cell? ⟨d, 0, none⟩ = some (.map (some B))) (hl : ThingsM w B l) :
    Calls Tryz.prog 59 #[.pointer (some ⟨d, 0, none⟩), .string p] w fun e w' => e = .returned (.int .i64 (kindF l p)) ∧ Below w.heap.size w w' := by
  have hlook := hl.look hp
  by_cases hs : p = slashB
  · have hb : (p.toList == [47]) = true := slash_true hs
    have hr := Lib.hid (kindF_root (l := l) hs)
    clear hs hl
    generalize dirAt l p = dd at *
    generalize dataAt l p = da at *
    generalize (thingAt l p).isSome = z at *
    go_enter Tryz.func59, Tryz.ntmps59
    go_wp2_with fail
    go_ret
    exact ⟨ret_i hr.out.symm, bal (Below.refl _ _) _⟩
  have hb : (p.toList == [47]) = false := slash_false hs
  have hr := Lib.hid (kindF_at (l := l) hs)
  clear hs hl
  cases ht : thingAt l p with
  | none =>
    have hr' : Hid (kindF l p = 0) := by unfold Hid; rw [hr.out, ht]
    rw [ht] at hlook
    simp only [Option.isSome_none] at hlook
    clear hr ht
    generalize dirAt l p = dd at *
    generalize dataAt l p = da at *
    go_enter Tryz.func59, Tryz.ntmps59
    go_wp2_with fail
    go_ret
    exact ⟨ret_i hr'.out.symm, bal (Below.refl _ _) _⟩
  | some f =>
    have hdir : dirAt l p = f.dir := by unfold dirAt; rw [ht]
    have hr' : kindF l p = if f.dir = true then 2 else 1 := by rw [hr.out, ht]
    rw [ht, hdir] at hlook
    simp only [Option.isSome_some] at hlook
    clear hr ht hdir
    generalize dataAt l p = da at *
    cases hf : f.dir with
    | true =>
      rw [hf] at hlook hr'
      have HR := Lib.hid hr'
      clear hr' hf
      go_enter Tryz.func59, Tryz.ntmps59
      go_wp2_with fail
      go_ret
      exact ⟨ret_i HR.out.symm, bal (Below.refl _ _) _⟩
    | false =>
      rw [hf] at hlook hr'
      have HR := Lib.hid hr'
      clear hr' hf
      go_enter Tryz.func59, Tryz.ntmps59
      go_wp2_with fail
      go_ret
      exact ⟨ret_i HR.out.symm, bal (Below.refl _ _) _⟩
end Go.Proofs.YthbnmehbhpakaaaGreatDoor
set_option autoImplicit false
set_option relaxedAutoImplicit false
set_option linter.unusedVariables false
set_option linter.unusedSimpArgs false
namespace Go.Proofs.YthbnmehbhpakaaaGreatDoor
open Go.Rows Go.RowKit Go.Shelf

def pathsF (l : List File) : List ByteArray := l.map (·.path)
theorem thingAt_cons (f : File) (t : List File) (p : ByteArray) : thingAt (f :: t) p = if f.path = p then some f else thingAt t p := by
  unfold thingAt
  rw [findF]
  by_cases h : f.path = p
  · rw [if_pos h, if_pos h]; rfl
  · rw [if_neg h, if_neg h]
    cases findF t p with
    | none => rfl
    | some k => simp
theorem thingAt_mem : ∀ {l : List File} {p : ByteArray} {f : File}, (pathsF l).Nodup → (thingAt l p = some f ↔ f ∈ l ∧ f.path = p)
  | [], p, f, _ => by
    constructor
    · intro h; cases h
    · rintro ⟨h, _⟩; cases h
  | g :: t, p, f, hn => by
    rw [thingAt_cons]
    have hn' : g.path ∉ pathsF t ∧ (pathsF t).Nodup := List.nodup_cons.1 hn
    by_cases h : g.path = p
    · rw [if_pos h]
      constructor
      · intro e; cases e; exact ⟨by simp, h⟩
      · rintro ⟨hm, hp⟩
        rcases List.mem_cons.1 hm with e | e
        · rw [e]
        · exact absurd (List.mem_map.2 ⟨f, e, hp.trans h.symm⟩) hn'.1
    · rw [if_neg h, thingAt_mem hn'.2]
      constructor
      · rintro ⟨hm, hp⟩; exact ⟨List.mem_cons_of_mem _ hm, hp⟩
      · rintro ⟨hm, hp⟩
        rcases List.mem_cons.1 hm with e | e
        · rw [e] at hp; exact absurd hp h
        · exact ⟨e, hp⟩
theorem thingAt_perm {l L : List File} (hn : (pathsF l).Nodup) (hp : List.Perm L l) (p : ByteArray) : thingAt L p = thingAt l p := by
  have hN : (pathsF L).Nodup := by
    have h := hp.map File.path
    exact h.nodup_iff.2 hn
  cases h : thingAt l p with
  | some f =>
    have := (thingAt_mem hn).1 h
    exact (thingAt_mem hN).2 ⟨hp.mem_iff.2 this.1, this.2⟩
  | none =>
    cases h' : thingAt L p with
    | none => rfl
    | some f =>
      have := (thingAt_mem hN).1 h'
      rw [(thingAt_mem hn).2 ⟨hp.mem_iff.1 this.1, this.2⟩] at h
      cases h
theorem kindF_perm {l L : List File} (hn : (pathsF l).Nodup) (hp : List.Perm L l) (p : ByteArray) : kindF L p = kindF l p := by
  by_cases h : p = slashB
  · rw [kindF_root h, kindF_root h]
  · rw [kindF_at h, kindF_at h, thingAt_perm hn hp]
end Go.Proofs.YthbnmehbhpakaaaGreatDoor
set_option autoImplicit false
set_option relaxedAutoImplicit false
set_option linter.unusedVariables false
set_option linter.unusedSimpArgs false
namespace Go.Proofs.YthbnmehbhpakaaaGreatDoor
open Go.Rows Go.RowKit Go.Shelf

/-- may a file come behind those ahead of it -/
def okF (pre : List File) (f : File) : Bool := !(thingAt pre f.path).isSome && diskPathB f.path && !(f.dir && !(f.data.toList == []))
def goodL : List File → List File → Bool
  | _, [] => true
  | pre, f :: t => okF pre f && goodL (pre ++ [f]) t
def homesB (l : List File) : Bool := l.all fun f => decide (kindF l (upS f.path) = 2)
def loadB (l : List File) : Bool := goodL [] l && homesB l
theorem goodL_step {l : List File} {k : Nat} {x : File} (hx : l[k]? = some x) : goodL (l.take k) (l.drop k) = (okF (l.take k) x && goodL (l.take (k + 1)) (l.drop (k + 1))) := by
  obtain ⟨hk, e⟩ := List.getElem?_eq_some_iff.1 hx
  rw [List.drop_eq_getElem_cons hk, e, goodL, List.take_add_one, hx]
  rfl
theorem goodL_done {l : List File} {k : Nat} (hk : l.length ≤ k) : goodL (l.take k) (l.drop k) = true := by
  rw [List.drop_eq_nil_of_le hk]; rfl
theorem okF_path {pre : List File} {f : File} (h : diskPathB f.path = false) : okF pre f = false := by
  unfold okF; rw [h]; cases (thingAt pre f.path).isSome <;> rfl
theorem okF_thing {pre : List File} {f : File} (h : (thingAt pre f.path).isSome = true) : okF pre f = false := by
  unfold okF; rw [h]; rfl
theorem okF_file {pre : List File} {f : File} (h : (thingAt pre f.path).isSome = false) (h2 : diskPathB f.path = true) (h3 : f.dir = false) : okF pre f = true := by
  unfold okF; rw [h, h2, h3]; rfl
theorem okF_dir {pre : List File} {f : File} (h : (thingAt pre f.path).isSome = false) (h2 : diskPathB f.path = true) (h3 : f.dir = true) (h4 : (f.data.toList == []) = true) : okF pre f = true := by
  unfold okF; rw [h, h2, h3, h4]; rfl
theorem okF_full {pre : List File} {f : File} (h3 : f.dir = true) (h4 : (f.data.toList == []) = false) : okF pre f = false := by
  unfold okF; rw [h3, h4]; cases (thingAt pre f.path).isSome <;> cases diskPathB f.path <;> rfl
theorem thingAt_none {l : List File} {p : ByteArray} : (thingAt l p).isSome = false ↔ p ∉ pathsF l := by
  induction l with
  | nil => simp [thingAt, findF, pathsF]
  | cons f t ih =>
    rw [thingAt_cons]
    show _ ↔ p ∉ f.path :: pathsF t
    by_cases h : f.path = p
    · rw [if_pos h]
      simp [h]
    · rw [if_neg h, ih]
      simp [List.mem_cons, fun e : p = f.path => h e.symm, Ne.symm h]
theorem findF_thing {l : List File} {p : ByteArray} (h : (thingAt l p).isSome = false) : findF l p = none := by
  cases hf : findF l p with
  | none => rfl
  | some k =>
    obtain ⟨x, hx, _⟩ := findF_some hf
    unfold thingAt at h
    rw [hf] at h
    simp [hx] at h
/-- the parents are directories just if all that a map's keys name have such -/
theorem homes_of {l : List File} (h : ∀ p ∈ pathsF l, kindF l (upS p) = 2) : homesB l = true :=
  List.all_eq_true.2 fun f hf => decide_eq_true (h f.path (List.mem_map.2 ⟨f, hf, rfl⟩))
theorem homes_not {l : List File} {p : ByteArray} (hp : p ∈ pathsF l) (h : kindF l (upS p) ≠ 2) : homesB l = false := by
  obtain ⟨f, hf, rfl⟩ := List.mem_map.1 hp
  refine List.all_eq_false.2 ⟨f, hf, ?_⟩
  simp [h]
theorem path_size {s : ByteArray} (h : diskPathB s = true) : s.size ≤ 4096 := by
  unfold diskPathB at h
  simp only [Bool.and_eq_true, decide_eq_true_eq] at h
  exact h.1
theorem up_size (s : ByteArray) : (upS s).size ≤ s.size + 1 := by
  unfold upS
  split
  · show 1 ≤ _; omega
  · rw [ByteArray.size_extract]; omega
end Go.Proofs.YthbnmehbhpakaaaGreatDoor
set_option autoImplicit false
set_option relaxedAutoImplicit false
set_option linter.unusedVariables false
set_option linter.unusedSimpArgs false
namespace Go.Proofs.YthbnmehbhpakaaaGreatDoor
open Go.Rows Go.RowKit Go.Shelf Go.Maps

theorem diskNew_any (w : World) : Calls Tryz.prog 57 #[] w fun e w' => e = .returned (.pointer (some ⟨w.heap.size + 1, 0, none⟩)) ∧ w' = (w.alloc (.map #[] 0)).alloc (.cells #[.map (some w.heap.size), .slice none 0 0, .int .i64 (-1)] 115) := by
  have hmm := @run_makeMap Tryz.prog
  go_enter Tryz.func57, Tryz.ntmps57
  go_wp2_with fail
  go_ret
  exact ⟨rfl, rfl⟩
end Go.Proofs.YthbnmehbhpakaaaGreatDoor
set_option autoImplicit false
set_option relaxedAutoImplicit false
set_option linter.unusedVariables false
set_option linter.unusedSimpArgs false
namespace Go.Proofs.YthbnmehbhpakaaaGreatDoor
open Go.Rows Go.RowKit Go.Shelf

theorem elt_file : Elt Tryz.prog 45 3 40 := Elt.mk' (z := .agg #[.string ByteArray.empty, .bool false, .string ByteArray.empty]) (by kernel_rfl) rfl (by decide)
end Go.Proofs.YthbnmehbhpakaaaGreatDoor
