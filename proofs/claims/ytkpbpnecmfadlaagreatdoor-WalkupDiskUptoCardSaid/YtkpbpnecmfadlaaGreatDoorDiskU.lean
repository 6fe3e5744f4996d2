/-
  The document's disk: find and Kind, walked.
-/
import Derived.Test.YtkpbpnecmfadlaaGreatDoorDiskT
import Derived.Test.YtkpbpnecmfadlaaGreatDoorDataO
set_option autoImplicit false
set_option relaxedAutoImplicit false
set_option linter.unusedVariables false
set_option linter.unusedSimpArgs false
namespace Go.Proofs.YtkpbpnecmfadlaaGreatDoor
open Go.Rows Go.RowKit Go.Shelf

/-- where a path first stands -/
def findF : List File → ByteArray → Option Nat
  | [], _ => none
  | f :: t, p => if f.path = p then some 0 else (findF t p).map (· + 1)
def findFI (l : List File) (p : ByteArray) : Int := match findF l p with
  | none => -1
  | some k => (k : Int)
theorem findF_step {l : List File} {p : ByteArray} {k : Nat} {x : File} (hx : l[k]? = some x) (h : findF l p = (findF (l.drop k) p).map (· + k)) :
    (x.path = p → findFI l p = (k : Int)) ∧ (x.path ≠ p → findF l p = (findF (l.drop (k + 1)) p).map (· + (k + 1))) := by
  obtain ⟨hk, e⟩ := List.getElem?_eq_some_iff.1 hx
  rw [List.drop_eq_getElem_cons hk, e, findF] at h
  constructor
  · intro hp
    rw [if_pos hp] at h
    unfold findFI
    rw [h]
    simp
  · intro hp
    rw [if_neg hp] at h
    rw [h]
    cases findF (l.drop (k + 1)) p with
    | none => rfl
    | some q => simp; omega
theorem ret_i {a b : Int} (h : a = b) : Ending.returned (.int .i64 a) = .returned (.int .i64 b) := by rw [h]

set_option maxHeartbeats 1600000 in
set_option maxRecDepth 100000 in
theorem docFind_any (d : Nat) (A : Option Addr) (n c : Nat) (rv zv : Value) (l : List File) (p : ByteArray) (w : World) (S : Nat → Prop)
    (hd : w.heap[d]? = some (.cells #[.slice A n c, rv, zv] 51 (0, 0))) (hl : SlV rFile w S l (.slice A n c)) :
    Calls Tryz.prog 15 #[.pointer (some ⟨d, 0, none⟩), .string p] w fun e w' => e = .returned (.int .i64 (findFI l p)) ∧ w = w' := by
  have hn := hl.n_eq
  have hcm := hl.cap_le
  unfold maxLen at hcm
  have hnc : n ≤ c := by obtain ⟨_, _, e, h, _⟩ := hl.val; simp only [Value.slice.injEq] at e; omega
  have d0 : w.cell? ⟨d, 0, none⟩ = some (.slice A n c) := cell_of_row w d 0 _ _ _ hd
  have Hn := Lib.hid hn
  have HL := Lib.hid hl
  clear hd hn hl
  go_enter Tryz.func15, Tryz.ntmps15
  go_wp2_with fail
  go_loop [5] (fun i => ∃ k : Nat, k ≤ n ∧ i = .int .i64 k ∧ Hid (findF l p = (findF (l.drop k) p).map (· + k))) (fun i => n - (intOf i).toNat)
  case atStart => exact ⟨0, Nat.zero_le _, rfl, by unfold Hid; rw [List.drop_zero]; cases findF l p <;> rfl⟩
  case round =>
    obtain ⟨k, hk, rfl, hrl⟩ := hrel
    by_cases hlt : k < n
    · have hkI : (k : Int) < (n : Int) := by omega
      have hk0 : (0 : Int) ≤ (k : Int) := by omega
      have hkl : k < l.length := by rw [← Hn.out]; exact hlt
      obtain ⟨x, hx⟩ : ∃ x, l[k]? = some x := ⟨_, List.getElem?_eq_getElem hkl⟩
      obtain ⟨q1, q2⟩ := findF_step (p := p) hx hrl.out
      obtain ⟨b, o, cs, hA, _, _, ⟨hcs, _, _⟩, hcell⟩ := HL.out.elem hx
      subst hA
      have c0 := hcell 0 _ (by rw [hcs]; rfl)
      rw [show o + k * rFile.size + 0 = o + k * 3 from rfl] at c0
      by_cases hp : x.path = p
      · have hb := beq_true hp
        have hr := Lib.hid (q1 hp)
        clear q1 q2 hcell hcs hrl hp hx hkl
        go_wp2_with fail
        go_ret
        exact ⟨ret_i hr.out.symm, rfl⟩
      · have hb := beq_false hp
        have hok := Lib.hid (q2 hp)
        clear q1 q2 hcell hcs hrl hp hx hkl
        go_wp2_with fail
        go_round
        case rel => exact ⟨k + 1, by omega, by go_num, hok⟩
        case measure => simp [intOf]; omega
    · have hkI : ¬ (k : Int) < (n : Int) := by omega
      have hr : Hid (findFI l p = -1) := by
        unfold Hid findFI
        rw [hrl.out, List.drop_eq_nil_of_le (by rw [← Hn.out]; omega)]
        rfl
      clear hrl
      go_wp2_with fail
      go_ret
      exact ⟨ret_i hr.out.symm, rfl⟩

/-- what stands at a path: 0 nothing, 1 a file, 2 a directory -/
def kindF (l : List File) (p : ByteArray) : Int := if p = slashB then 2 else match (findF l p).bind (l[·]?) with
  | none => 0
  | some f => if f.dir = true then 2 else 1
theorem findF_some : ∀ {l : List File} {p : ByteArray} {k : Nat}, findF l p = some k → ∃ x, l[k]? = some x ∧ x.path = p
  | [], p, k, h => by rw [findF] at h; cases h
  | f :: t, p, k, h => by
    rw [findF] at h
    by_cases e : f.path = p
    · rw [if_pos e] at h
      cases h
      exact ⟨f, rfl, e⟩
    · rw [if_neg e] at h
      cases hq : findF t p with
      | none => rw [hq] at h; cases h
      | some q =>
        rw [hq] at h
        simp only [Option.map_some, Option.some.injEq] at h
        subst h
        obtain ⟨x, h1, h2⟩ := findF_some hq
        exact ⟨x, h1, h2⟩

set_option maxHeartbeats 1600000 in
set_option maxRecDepth 100000 in
theorem docKind_any (d : Nat) (A : Option Addr) (n c : Nat) (rv zv : Value) (l : List File) (p : ByteArray) (w : World) (S : Nat → Prop)
    (hd : w.heap[d]? = some (.cells #[.slice A n c, rv, zv] 51 (0, 0))) (hl : SlV rFile w S l (.slice A n c)) :
    Calls Tryz.prog 17 #[.pointer (some ⟨d, 0, none⟩), .string p] w fun e w' => e = .returned (.int .i64 (kindF l p)) ∧ w = w' := by
  have HF := Lib.hid (docFind_any d A n c rv zv l p w S hd hl)
  have d0 : w.cell? ⟨d, 0, none⟩ = some (.slice A n c) := cell_of_row w d 0 _ _ _ hd
  have hn := hl.n_eq
  by_cases hs : p = slashB
  · have hb : (p.toList == [47]) = true := slash_true hs
    have hr : Hid (kindF l p = 2) := by unfold Hid kindF; rw [if_pos hs]
    clear hs hd hl hn
    go_enter Tryz.func17, Tryz.ntmps17
    go_wp2_with fail
    refine HF.out.mono ?_
    rintro e w1 ⟨rfl, rfl⟩
    go_wp2_with fail
    go_ret
    exact ⟨ret_i hr.out.symm, rfl⟩
  have hb : (p.toList == [47]) = false := slash_false hs
  cases hf : findF l p with
  | none =>
    have hi : findFI l p = -1 := by unfold findFI; rw [hf]
    have hr : Hid (kindF l p = 0) := by unfold Hid kindF; rw [if_neg hs, hf]; rfl
    rw [hi] at HF
    clear hs hd hl hn hf hi
    go_enter Tryz.func17, Tryz.ntmps17
    go_wp2_with fail
    refine HF.out.mono ?_
    rintro e w1 ⟨rfl, rfl⟩
    go_wp2_with fail
    go_ret
    exact ⟨ret_i hr.out.symm, rfl⟩
  | some k =>
    obtain ⟨x, hx, _⟩ := findF_some hf
    have hi : findFI l p = (k : Int) := by unfold findFI; rw [hf]
    have hr : Hid (kindF l p = if x.dir = true then 2 else 1) := by unfold Hid kindF; rw [if_neg hs, hf]; simp only [Option.bind_some, hx]
    obtain ⟨b, o, cs, hA, _, _, ⟨hcs, _, _⟩, hcell⟩ := hl.elem hx
    subst hA
    have c1 := hcell 1 _ (by rw [hcs]; rfl)
    rw [show o + k * rFile.size + 1 = o + k * 3 + 1 from rfl] at c1
    have hkn : k < n := by rw [hn]; exact (List.getElem?_eq_some_iff.1 hx).1
    have hkI : (k : Int) < (n : Int) := by omega
    have hk0 : (0 : Int) ≤ (k : Int) := by omega
    have hk1 : ¬ (k : Int) < 0 := by omega
    rw [hi] at HF
    clear hs hd hl hn hf hi hcell hcs hx
    cases hdir : x.dir with
    | true =>
      rw [hdir] at c1
      have hr' : Hid (kindF l p = 2) := by unfold Hid; rw [hr.out, hdir]; rfl
      clear hdir hr
      go_enter Tryz.func17, Tryz.ntmps17
      go_wp2_with fail
      refine HF.out.mono ?_
      rintro e w1 ⟨rfl, rfl⟩
      go_wp2_with fail
      go_ret
      exact ⟨ret_i hr'.out.symm, rfl⟩
    | false =>
      rw [hdir] at c1
      have hr' : Hid (kindF l p = 1) := by unfold Hid; rw [hr.out, hdir]; rfl
      clear hdir hr
      go_enter Tryz.func17, Tryz.ntmps17
      go_wp2_with fail
      refine HF.out.mono ?_
      rintro e w1 ⟨rfl, rfl⟩
      go_wp2_with fail
      go_ret
      exact ⟨ret_i hr'.out.symm, rfl⟩
end Go.Proofs.YtkpbpnecmfadlaaGreatDoor
