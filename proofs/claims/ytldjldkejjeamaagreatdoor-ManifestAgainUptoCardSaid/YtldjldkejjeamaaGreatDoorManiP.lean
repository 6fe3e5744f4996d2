/-
  A manifest's text read, in plain words; what is written is read as it was.
-/
import Derived.Test.YtldjldkejjeamaaGreatDoorKnowP
import Derived.Test.YtldjldkejjeamaaGreatDoorManiO
set_option autoImplicit false
set_option relaxedAutoImplicit false
set_option linter.unusedVariables false
set_option linter.unusedSimpArgs false
namespace Go.Proofs.YtldjldkejjeamaaGreatDoor

def devW : ByteArray := ⟨#[100, 101, 118]⟩
def pinsW : ByteArray := ⟨#[112, 105, 110, 115]⟩
def projectW : ByteArray := ⟨#[112, 114, 111, 106, 101, 99, 116]⟩
def maniOrder : List ByteArray := [needsW, devW, likesW, pinsW]
def maniText (m : Mani) : ByteArray := projectW ++ nlB ++ linesD needsW m.deps ++ linesD devW m.dev ++ linesD likesW m.opts ++ linesD pinsW m.over
/-- may a manifest be -/
noncomputable def maniB (m : Mani) : Bool :=
  listB m.deps && (listB m.dev && (listB m.opts && (listB m.over && (nodupB (allNames [m.deps, m.dev, m.opts]) && decide ((maniText m).size ≤ 4096)))))
noncomputable def maniE (t : ByteArray) : Except Int Mani :=
  if (scanQ 4096 t).2 ≠ 0 then .error (scanQ 4096 t).2 else match (scanQ 4096 t).1 with
  | [w0] :: rest => if w0.data.toList ≠ projectW.data.toList then .error 22 else match listsE maniOrder rest (0, [[], [], [], []]) with
      | .error e => .error e
      | .ok [d, v, o, p] => if maniB ⟨d, v, o, p⟩ = true then .ok ⟨d, v, o, p⟩ else .error 25
      | .ok _ => .error 0
  | _ => .error 22
theorem mani_idx : (∀ a, a ≤ 0 → idxGo (maniOrder.drop a) needsW = some (0 - a)) ∧ (∀ a, a ≤ 1 → idxGo (maniOrder.drop a) devW = some (1 - a)) ∧ (∀ a, a ≤ 2 → idxGo (maniOrder.drop a) likesW = some (2 - a)) ∧ (∀ a, a ≤ 3 → idxGo (maniOrder.drop a) pinsW = some (3 - a)) := by
  refine ⟨fun a h => ?_, fun a h => ?_, fun a h => ?_, fun a h => ?_⟩
  · obtain rfl : a = 0 := by omega
    rfl
  · have : a = 0 ∨ a = 1 := by omega
    rcases this with rfl | rfl <;> rfl
  · have : a = 0 ∨ a = 1 ∨ a = 2 := by omega
    rcases this with rfl | rfl | rfl <;> rfl
  · have : a = 0 ∨ a = 1 ∨ a = 2 ∨ a = 3 := by omega
    rcases this with rfl | rfl | rfl | rfl <;> rfl
theorem maniText_lines {m : Mani} (h : maniB m = true) : linesB (maniText m) = some ([projectW] :: (m.deps.map (lineW needsW) ++ (m.dev.map (lineW devW) ++ (m.opts.map (lineW likesW) ++ (m.over.map (lineW pinsW) ++ []))))) := by
  unfold maniB at h
  simp only [Bool.and_eq_true, decide_eq_true_eq] at h
  obtain ⟨hd, hv, ho, hp, _, _⟩ := h
  have e : (maniText m).data.toList = projectW.data.toList ++ 10 :: ((linesD needsW m.deps).data.toList ++ ((linesD devW m.dev).data.toList ++ ((linesD likesW m.opts).data.toList ++ ((linesD pinsW m.over).data.toList ++ [])))) := by
    unfold maniText
    simp [nlB]
  unfold linesB
  rw [e, linesF_line (by decide)]
  rw [lineF_one (by decide) (by decide)]
  rw [linesD_lines (by unfold GoodB; decide) _ _ (listB_go hd).2, linesD_lines (by unfold GoodB; decide) _ _ (listB_go hv).2, linesD_lines (by unfold GoodB; decide) _ _ (listB_go ho).2, linesD_lines (by unfold GoodB; decide) _ _ (listB_go hp).2]
  rw [show linesF [] = some [] from rfl]
  simp only [Option.map_some, List.map_cons, List.map_append, List.map_nil, List.map_map, mkB_self]
  have key : ∀ (word : ByteArray) (l : List Dep), l.map ((fun w => w.map mkB) ∘ fun d => word.data.toList :: d.name.data.toList :: splL 32 [] (spansText d.range).data.toList) = l.map (lineW word) := fun word l => List.map_congr_left fun d _ => mk_line word d
  rw [key, key, key, key]
theorem mani_text {m : Mani} (h : maniB m = true) : maniE (maniText m) = .ok m := by
  have hl := maniText_lines h
  have hb := h
  unfold maniB at h
  simp only [Bool.and_eq_true, decide_eq_true_eq] at h
  obtain ⟨hd, hv, ho, hp, _, hz⟩ := h
  have hs : scanQ 4096 (maniText m) = ([projectW] :: (m.deps.map (lineW needsW) ++ (m.dev.map (lineW devW) ++ (m.opts.map (lineW likesW) ++ (m.over.map (lineW pinsW) ++ [])))), 0) := by
    unfold scanQ
    rw [if_neg (by omega), hl]
  obtain ⟨i1, i2, i3, i4⟩ := mani_idx
  have hli : listsE maniOrder (m.deps.map (lineW needsW) ++ (m.dev.map (lineW devW) ++ (m.opts.map (lineW likesW) ++ (m.over.map (lineW pinsW) ++ [])))) (0, [[], [], [], []]) = .ok [m.deps, m.dev, m.opts, m.over] := by
    rw [lists_run i1 m.deps 0 [[], [], [], []] [] _ (Nat.le_refl _) rfl (listB_go hd).1]
    rw [show (if m.deps = [] then 0 else 0) = 0 by split <;> rfl]
    rw [lists_run i2 m.dev 0 _ [] _ (by decide) rfl (listB_go hv).1]
    obtain ⟨a2, ha2, hle2⟩ : ∃ a2, a2 = (if m.dev = [] then 0 else 1) ∧ a2 ≤ 2 := ⟨_, rfl, by split <;> decide⟩
    rw [← ha2]
    rw [lists_run i3 m.opts a2 _ [] _ hle2 rfl (listB_go ho).1]
    obtain ⟨a3, ha3, hle3⟩ : ∃ a3, a3 = (if m.opts = [] then a2 else 2) ∧ a3 ≤ 3 := ⟨_, rfl, by split <;> omega⟩
    rw [← ha3]
    rw [lists_run i4 m.over a3 _ [] _ hle3 rfl (listB_go hp).1, listsE]
    rfl
  unfold maniE
  rw [hs, if_neg (by simp)]
  simp only
  rw [if_neg (by simp), hli]
  simp only
  rw [if_pos hb]
theorem maniE_ok {t : ByteArray} {m : Mani} (h : maniE t = .ok m) : maniB m = true := by
  unfold maniE at h
  split at h
  · cases h
  · split at h
    · split at h
      · cases h
      · split at h
        · cases h
        · split at h
          · cases h; assumption
          · cases h
        · cases h
    · cases h
theorem maniText_inj {m n : Mani} (hm : maniB m = true) (hn : maniB n = true) : maniText m = maniText n ↔ m = n := by
  refine ⟨fun h => ?_, fun h => by rw [h]⟩
  have h1 := mani_text hm
  rw [h, mani_text hn] at h1
  exact (Except.ok.inj h1).symm
end Go.Proofs.YtldjldkejjeamaaGreatDoor
