/-
  The program's disk: a map of things by their paths: looked up and written.
  The program's disk: Kind, walked.
-/
import Derived.Test.YtkpbpnecmfadlaaGreatDoorDiskU
import Derived.Test.YtkpbpnecmfadlaaGreatDoorApart
import Derived.Maps.OwnSet
set_option autoImplicit false
set_option relaxedAutoImplicit false
set_option linter.unusedVariables false
set_option linter.unusedSimpArgs false
namespace Go.Proofs.YtkpbpnecmfadlaaGreatDoor
open Go.Rows Go.RowKit Go.Shelf Go.Maps

/-- how a thing reads -/
def thingElem : Value → Option (DataW Unit × List MemPlace)
  | .agg cs => match cs.toList with
    | [.bool d, .string s] => some (.agg [.lit (.bool d), .lit (.string s.data.toList)], [])
    | _ => none
  | _ => none
def thingD (d : Bool) (s : ByteArray) : DataW Unit := .agg [.lit (.bool d), .lit (.string s.data.toList)]
theorem thingElem_mk (d : Bool) (s : ByteArray) : thingElem (.agg #[.bool d, .string s]) = some (thingD d s, []) := rfl
theorem thingElem_inv {v : Value} {d : Bool} {s : ByteArray} {ps : List MemPlace} (h : thingElem v = some (thingD d s, ps)) : v = .agg #[.bool d, .string s] := by
  unfold thingElem at h
  split at h
  · rename_i cs
    split at h
    · rename_i d' s' hc
      simp only [thingD, Option.some.injEq, Prod.mk.injEq, DataW.agg.injEq, List.cons.injEq, DataW.lit.injEq, Lit.bool.injEq, Lit.string.injEq, and_true] at h
      obtain ⟨⟨rfl, h2⟩, _⟩ := h
      rw [← data_inj h2]
      congr 1
      exact Array.ext' hc
    · cases h
  · cases h
theorem thing_zero (w : World) : (zeroValue 39).run Tryz.prog w = .ok (.agg #[.bool false, .string ⟨#[]⟩]) w := by kernel_rfl
/-- what stands at a path in a list: is something; a directory; the text -/
def thingAt (l : List File) (p : ByteArray) : Option File := (findF l p).bind (l[·]?)
def dirAt (l : List File) (p : ByteArray) : Bool := match thingAt l p with | none => false | some f => f.dir
def dataAt (l : List File) (p : ByteArray) : ByteArray := match thingAt l p with | none => ⟨#[]⟩ | some f => f.data
/-- the map holds what the list holds -/
def ThingsM (w : World) (B : Nat) (l : List File) : Prop :=
  ∃ (n : Nat) (D : DataW Unit), w.ownsMap Tryz.prog 9 thingElem B n D ∧ n ≤ l.length ∧ IsMap D ∧ ∀ p : ByteArray, Maps.has D (.string p.data.toList) = (thingAt l p).isSome ∧
    ∀ zd, D.atKey (.string p.data.toList) zd = match thingAt l p with | none => zd | some f => thingD f.dir f.data
theorem ThingsM.made (w : World) : ThingsM (w.alloc (.map #[] 0)) w.heap.size [] :=
  ⟨0, .map [], World.ownsMap_made _ _ _ _, Nat.le_refl _, isMap_empty, fun p => ⟨rfl, fun zd => rfl⟩⟩
theorem ThingsM.kept {w w' : World} {B : Nat} {l : List File} {row : Option Nat} (h : ThingsM w B l) (hg : w.grownBy w' row) (hne : some B ≠ row) : ThingsM w' B l := by
  obtain ⟨n, D, h1, h2⟩ := h
  exact ⟨n, D, h1.kept hg hne, h2⟩
theorem ThingsM.keep {w w' : World} {B : Nat} {l : List File} (h : ThingsM w B l) (hb : Below w.heap.size w w') : ThingsM w' B l :=
  h.kept (row := none) ⟨hb.os, hb.tape, hb.output, hb.size, fun k hk _ => hb.block k hk⟩ (by simp)
/-- a path looked up -/
theorem ThingsM.look {W : World} {B : Nat} {l : List File} {p : ByteArray} (h : ThingsM W B l) (hp : p.size ≤ maxLen) :
    (Instr.lookup 41 (.map (some B)) (.string p) true).run Tryz.prog W = .ok (.tuple #[.agg #[.bool (dirAt l p), .string (dataAt l p)], .bool (thingAt l p).isSome]) W := by
  obtain ⟨n, D, h1, h2, h3, h4⟩ := h
  have hkey := Go.WideMaps.keyOf_string_mk (P := Tryz.prog) Tryz.underlying9 hp
  obtain ⟨v, ps, r1, r2⟩ := h1.look_ok key_law Tryz.underlying41 (thing_zero W) (thingElem_mk false ⟨#[]⟩) hkey
  obtain ⟨q1, q2⟩ := h4 p
  rw [q1] at r1
  rw [q2] at r2
  unfold dirAt dataAt
  cases ht : thingAt l p with
  | none =>
    rw [ht] at r1 r2
    rw [thingElem_inv r2] at r1
    exact r1
  | some f =>
    rw [ht] at r1 r2
    rw [thingElem_inv r2] at r1
    exact r1
theorem findF_app (x : File) (p : ByteArray) : ∀ l : List File, findF (l ++ [x]) p = match findF l p with
    | some k => some k
    | none => if x.path = p then some l.length else none
  | [] => by
    show findF [x] p = _
    rw [findF]
    by_cases h : x.path = p
    · rw [if_pos h]; simp [findF, h]
    · rw [if_neg h]; simp [findF, h]
  | f :: t => by
    rw [List.cons_append, findF, findF]
    by_cases h : f.path = p
    · rw [if_pos h, if_pos h]
    · rw [if_neg h, if_neg h, findF_app x p t]
      cases findF t p with
      | some k => rfl
      | none =>
        by_cases e : x.path = p
        · simp [e]
        · simp [e]
theorem thingAt_app {l : List File} {x : File} {p : ByteArray} (h : findF l x.path = none) : thingAt (l ++ [x]) p = if x.path = p then some x else thingAt l p := by
  unfold thingAt
  rw [findF_app]
  by_cases e : x.path = p
  · subst e
    rw [h, if_pos rfl, if_pos rfl]
    simp
  · rw [if_neg e]
    cases hf : findF l p with
    | none => simp [e]
    | some k =>
      obtain ⟨y, hy, _⟩ := findF_some hf
      have hk := (List.getElem?_eq_some_iff.1 hy).1
      simp only [Option.bind_some]
      rw [List.getElem?_append_left hk, if_neg e]
/-- a thing written at a path at which nothing stands -/
theorem ThingsM.put {W : World} {B : Nat} {l : List File} {x : File} (h : ThingsM W B l) (hp : x.path.size ≤ maxLen) (hl : l.length ≤ 1000000000) (hno : findF l x.path = none) :
    ∃ w', (Instr.mapUpdate 41 (.map (some B)) (.string x.path) (.agg #[.bool x.dir, .string x.data])).run Tryz.prog W = .ok () w' ∧ ThingsM w' B (l ++ [x]) ∧ W.grownBy w' (some B) := by
  obtain ⟨n, D, h1, h2, h3, h4⟩ := h
  have hkey := Go.WideMaps.keyOf_string_mk (P := Tryz.prog) Tryz.underlying9 hp
  obtain ⟨w', r1, r2, r3⟩ := h1.store key_law Tryz.underlying41 (by unfold maxLen; omega) hkey (thingElem_mk x.dir x.data)
  refine ⟨w', r1, ⟨n + 1, _, r2, by simp; omega, h3.put _ _, fun p => ?_⟩, r3.grown⟩
  rw [thingAt_app hno]
  by_cases e : x.path = p
  · subst e
    rw [if_pos rfl]
    exact ⟨has_put_same h3 (by trivial) _, fun zd => atKey_put_same h3 (by trivial) _ _⟩
  · rw [if_neg e]
    have hne : (Lit.string p.data.toList) ≠ .string x.path.data.toList := fun he => e (data_inj (by simpa using he.symm))
    refine ⟨(has_put_other hne _).trans (h4 p).1, fun zd => ?_⟩
    rw [atKey_put_other hne]
    exact (h4 p).2 zd
end Go.Proofs.YtkpbpnecmfadlaaGreatDoor
set_option autoImplicit false
set_option relaxedAutoImplicit false
set_option linter.unusedVariables false
set_option linter.unusedSimpArgs false
namespace Go.Proofs.YtkpbpnecmfadlaaGreatDoor
open Go.Rows Go.RowKit Go.Shelf Go.Maps

theorem kindF_root {l : List File} {p : ByteArray} (h : p = slashB) : kindF l p = 2 := by unfold kindF; rw [if_pos h]
theorem kindF_at {l : List File} {p : ByteArray} (h : p ≠ slashB) : kindF l p = match thingAt l p with | none => 0 | some f => if f.dir = true then 2 else 1 := by unfold kindF thingAt; rw [if_neg h]; cases (findF l p).bind (fun x => l[x]?) <;> rfl

set_option maxHeartbeats 1600000 in
set_option maxRecDepth 100000 in
theorem diskKind_any (d B : Nat) (rv zv : Value) (l : List File) (p : ByteArray) (w : World) (hp : p.size ≤ maxLen)
    (hd : w.cell? ⟨d, 0, none⟩ = some (.map (some B))) (hl : ThingsM w B l) :
    Calls Tryz.prog 11 #[.pointer (some ⟨d, 0, none⟩), .string p] w fun e w' => e = .returned (.int .i64 (kindF l p)) ∧ Below w.heap.size w w' := by
  have hlook := hl.look hp
  by_cases hs : p = slashB
  · have hb : (p.toList == [47]) = true := slash_true hs
    have hr := Lib.hid (kindF_root (l := l) hs)
    clear hs hl
    generalize dirAt l p = dd at *
    generalize dataAt l p = da at *
    generalize (thingAt l p).isSome = z at *
    go_enter Tryz.func11, Tryz.ntmps11
    go_wp2_with fail
    go_ret
    exact ⟨ret_i hr.out.symm, bal (Below.refl _ _) _⟩
  have hb : (p.toList == [47]) = false := slash_false hs
  have hr := Lib.hid (kindF_at (l := l) hs)
  clear hs hl
  cases ht : thingAt l p with
  | none =>
    have hr' : Hid (kindF l p = 0) := by unfold Hid; rw [hr.out, ht]
    rw [ht] at hlook
    simp only [Option.isSome_none] at hlook
    clear hr ht
    generalize dirAt l p = dd at *
    generalize dataAt l p = da at *
    go_enter Tryz.func11, Tryz.ntmps11
    go_wp2_with fail
    go_ret
    exact ⟨ret_i hr'.out.symm, bal (Below.refl _ _) _⟩
  | some f =>
    have hdir : dirAt l p = f.dir := by unfold dirAt; rw [ht]
    have hr' : kindF l p = if f.dir = true then 2 else 1 := by rw [hr.out, ht]
    rw [ht, hdir] at hlook
    simp only [Option.isSome_some] at hlook
    clear hr ht hdir
    generalize dataAt l p = da at *
    cases hf : f.dir with
    | true =>
      rw [hf] at hlook hr'
      have HR := Lib.hid hr'
      clear hr' hf
      go_enter Tryz.func11, Tryz.ntmps11
      go_wp2_with fail
      go_ret
      exact ⟨ret_i HR.out.symm, bal (Below.refl _ _) _⟩
    | false =>
      rw [hf] at hlook hr'
      have HR := Lib.hid hr'
      clear hr' hf
      go_enter Tryz.func11, Tryz.ntmps11
      go_wp2_with fail
      go_ret
      exact ⟨ret_i HR.out.symm, bal (Below.refl _ _) _⟩
end Go.Proofs.YtkpbpnecmfadlaaGreatDoor
