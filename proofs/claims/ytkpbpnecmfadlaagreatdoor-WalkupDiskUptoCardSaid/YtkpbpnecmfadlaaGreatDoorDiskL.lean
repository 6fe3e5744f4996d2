/-
  What stands at a path, told by membership: lists of files whose paths are apart (plain).
  A disk's files, may they be loaded: plain words for both Loads.
-/
import Derived.Test.YtkpbpnecmfadlaaGreatDoorDiskK
set_option autoImplicit false
set_option relaxedAutoImplicit false
set_option linter.unusedVariables false
set_option linter.unusedSimpArgs false
namespace Go.Proofs.YtkpbpnecmfadlaaGreatDoor
open Go.Rows Go.RowKit Go.Shelf

def pathsF (l : List File) : List ByteArray := l.map (·.path)
theorem thingAt_cons (f : File) (t : List File) (p : ByteArray) : thingAt (f :: t) p = if f.path = p then some f else thingAt t p := by
  unfold thingAt
  rw [findF]
  by_cases h : f.path = p
  · rw [if_pos h, if_pos h]; rfl
  · rw [if_neg h, if_neg h]
    cases findF t p with
    | none => rfl
    | some k => simp
theorem thingAt_mem : ∀ {l : List File} {p : ByteArray} {f : File}, (pathsF l).Nodup → (thingAt l p = some f ↔ f ∈ l ∧ f.path = p)
  | [], p, f, _ => by
    constructor
    · intro h; cases h
    · rintro ⟨h, _⟩; cases h
  | g :: t, p, f, hn => by
    rw [thingAt_cons]
    have hn' : g.path ∉ pathsF t ∧ (pathsF t).Nodup := List.nodup_cons.1 hn
    by_cases h : g.path = p
    · rw [if_pos h]
      constructor
      · intro e; cases e; exact ⟨by simp, h⟩
      · rintro ⟨hm, hp⟩
        rcases List.mem_cons.1 hm with e | e
        · rw [e]
        · exact absurd (List.mem_map.2 ⟨f, e, hp.trans h.symm⟩) hn'.1
    · rw [if_neg h, thingAt_mem hn'.2]
      constructor
      · rintro ⟨hm, hp⟩; exact ⟨List.mem_cons_of_mem _ hm, hp⟩
      · rintro ⟨hm, hp⟩
        rcases List.mem_cons.1 hm with e | e
        · rw [e] at hp; exact absurd hp h
        · exact ⟨e, hp⟩
theorem thingAt_perm {l L : List File} (hn : (pathsF l).Nodup) (hp : List.Perm L l) (p : ByteArray) : thingAt L p = thingAt l p := by
  have hN : (pathsF L).Nodup := by
    have h := hp.map File.path
    exact h.nodup_iff.2 hn
  cases h : thingAt l p with
  | some f =>
    have := (thingAt_mem hn).1 h
    exact (thingAt_mem hN).2 ⟨hp.mem_iff.2 this.1, this.2⟩
  | none =>
    cases h' : thingAt L p with
    | none => rfl
    | some f =>
      have := (thingAt_mem hN).1 h'
      rw [(thingAt_mem hn).2 ⟨hp.mem_iff.1 this.1, this.2⟩] at h
      cases h
theorem kindF_perm {l L : List File} (hn : (pathsF l).Nodup) (hp : List.Perm L l) (p : ByteArray) : kindF L p = kindF l p := by
  by_cases h : p = slashB
  · rw [kindF_root h, kindF_root h]
  · rw [kindF_at h, kindF_at h, thingAt_perm hn hp]
/-- something put among files, ahead of the first that is not less (ge); what had its path goes; ahead: what the document's loop has made, and is it put -/
def putG (ge : ByteArray → ByteArray → Bool) (f : File) : List File → Bool → List File
  | [], done => if done = true then [] else [f]
  | g :: t, done => (if (ge g.path f.path && !done) = true then [f] else []) ++ ((if g.path = f.path then [] else [g]) ++ putG ge f t (done || ge g.path f.path))
theorem putG_done (ge : ByteArray → ByteArray → Bool) (f : File) : ∀ l : List File, f.path ∉ pathsF l → putG ge f l true = l
  | [], _ => rfl
  | g :: t, h => by
    have hg : ¬ g.path = f.path := fun e => h (by rw [← e]; exact List.mem_cons_self ..)
    have ht : f.path ∉ pathsF t := fun e => h (List.mem_cons_of_mem _ e)
    rw [putG, if_neg hg, Bool.true_or, putG_done ge f t ht]
    simp
theorem putG_perm (ge : ByteArray → ByteArray → Bool) (f : File) : ∀ l : List File, f.path ∉ pathsF l → List.Perm (putG ge f l false) (f :: l)
  | [], _ => List.Perm.refl _
  | g :: t, h => by
    have hg : ¬ g.path = f.path := fun e => h (by rw [← e]; exact List.mem_cons_self ..)
    have ht : f.path ∉ pathsF t := fun e => h (List.mem_cons_of_mem _ e)
    rw [putG, if_neg hg]
    cases hge : ge g.path f.path with
    | true =>
      rw [Bool.false_or, putG_done ge f t ht]
      exact List.Perm.refl _
    | false =>
      rw [Bool.false_or]
      exact (List.Perm.cons g (putG_perm ge f t ht)).trans (List.Perm.swap f g t)
end Go.Proofs.YtkpbpnecmfadlaaGreatDoor
set_option autoImplicit false
set_option relaxedAutoImplicit false
set_option linter.unusedVariables false
set_option linter.unusedSimpArgs false
namespace Go.Proofs.YtkpbpnecmfadlaaGreatDoor
open Go.Rows Go.RowKit Go.Shelf

/-- may a file come behind those ahead of it -/
def okF (pre : List File) (f : File) : Bool := !(thingAt pre f.path).isSome && diskPathB f.path && !(f.dir && !(f.data.toList == []))
def goodL : List File → List File → Bool
  | _, [] => true
  | pre, f :: t => okF pre f && goodL (pre ++ [f]) t
def homesB (l : List File) : Bool := l.all fun f => decide (kindF l (upS f.path) = 2)
def loadB (l : List File) : Bool := goodL [] l && homesB l
theorem goodL_step {l : List File} {k : Nat} {x : File} (hx : l[k]? = some x) : goodL (l.take k) (l.drop k) = (okF (l.take k) x && goodL (l.take (k + 1)) (l.drop (k + 1))) := by
  obtain ⟨hk, e⟩ := List.getElem?_eq_some_iff.1 hx
  rw [List.drop_eq_getElem_cons hk, e, goodL, List.take_add_one, hx]
  rfl
theorem goodL_done {l : List File} {k : Nat} (hk : l.length ≤ k) : goodL (l.take k) (l.drop k) = true := by
  rw [List.drop_eq_nil_of_le hk]; rfl
theorem okF_path {pre : List File} {f : File} (h : diskPathB f.path = false) : okF pre f = false := by
  unfold okF; rw [h]; cases (thingAt pre f.path).isSome <;> rfl
theorem okF_thing {pre : List File} {f : File} (h : (thingAt pre f.path).isSome = true) : okF pre f = false := by
  unfold okF; rw [h]; rfl
theorem okF_file {pre : List File} {f : File} (h : (thingAt pre f.path).isSome = false) (h2 : diskPathB f.path = true) (h3 : f.dir = false) : okF pre f = true := by
  unfold okF; rw [h, h2, h3]; rfl
theorem okF_dir {pre : List File} {f : File} (h : (thingAt pre f.path).isSome = false) (h2 : diskPathB f.path = true) (h3 : f.dir = true) (h4 : (f.data.toList == []) = true) : okF pre f = true := by
  unfold okF; rw [h, h2, h3, h4]; rfl
theorem okF_full {pre : List File} {f : File} (h3 : f.dir = true) (h4 : (f.data.toList == []) = false) : okF pre f = false := by
  unfold okF; rw [h3, h4]; cases (thingAt pre f.path).isSome <;> cases diskPathB f.path <;> rfl
theorem thingAt_none {l : List File} {p : ByteArray} : (thingAt l p).isSome = false ↔ p ∉ pathsF l := by
  induction l with
  | nil => simp [thingAt, findF, pathsF]
  | cons f t ih =>
    rw [thingAt_cons]
    show _ ↔ p ∉ f.path :: pathsF t
    by_cases h : f.path = p
    · rw [if_pos h]
      simp [h]
    · rw [if_neg h, ih]
      simp [List.mem_cons, fun e : p = f.path => h e.symm, Ne.symm h]
theorem findF_thing {l : List File} {p : ByteArray} (h : (thingAt l p).isSome = false) : findF l p = none := by
  cases hf : findF l p with
  | none => rfl
  | some k =>
    obtain ⟨x, hx, _⟩ := findF_some hf
    unfold thingAt at h
    rw [hf] at h
    simp [hx] at h
theorem findFI_thing (l : List File) (p : ByteArray) : ((thingAt l p).isSome = true ∧ ∃ k : Nat, findFI l p = (k : Int)) ∨ ((thingAt l p).isSome = false ∧ findFI l p = -1) := by
  cases h : (thingAt l p).isSome with
  | false => exact .inr ⟨rfl, by unfold findFI; rw [findF_thing h]⟩
  | true =>
    refine .inl ⟨rfl, ?_⟩
    unfold findFI
    cases hf : findF l p with
    | none => unfold thingAt at h; rw [hf] at h; cases h
    | some k => exact ⟨k, rfl⟩
theorem paths_step {l : List File} {k : Nat} {x : File} (hx : l[k]? = some x) (hn : (pathsF (l.take k)).Nodup) (hno : (thingAt (l.take k) x.path).isSome = false) : (pathsF (l.take (k + 1))).Nodup := by
  rw [List.take_add_one, hx]
  show (pathsF (l.take k ++ [x])).Nodup
  unfold pathsF at hn ⊢
  rw [List.map_append, List.nodup_append]
  refine ⟨hn, by simp, fun a ha b hb e => ?_⟩
  rw [List.map_singleton, List.mem_singleton] at hb
  exact thingAt_none.1 hno (by rw [← hb, ← e]; exact ha)
theorem perm_step {l M : List File} {k : Nat} {x : File} {ge : ByteArray → ByteArray → Bool} (hx : l[k]? = some x) (hn : (pathsF (l.take k)).Nodup) (hM : List.Perm M (l.take k)) (hno : (thingAt (l.take k) x.path).isSome = false) :
    List.Perm (putG ge x M false) (l.take (k + 1)) := by
  have h : x.path ∉ pathsF M := fun h => thingAt_none.1 hno ((hM.map File.path).mem_iff.1 h)
  refine (putG_perm ge x M h).trans ?_
  rw [List.take_add_one, hx]
  exact (List.Perm.cons x hM).trans (List.perm_append_singleton x (l.take k)).symm
theorem homes_perm {l M : List File} (hn : (pathsF l).Nodup) (hM : List.Perm M l) : homesB l = M.all fun f => decide (kindF M (upS f.path) = 2) := by
  unfold homesB
  rw [← hM.all_eq]
  congr 1
  funext f
  rw [kindF_perm hn hM]
theorem all_atF {l : List File} {q : File → Bool} {k : Nat} {x : File} (hx : l[k]? = some x) : ((l.drop k).all q) = (q x && (l.drop (k + 1)).all q) := by
  obtain ⟨hk, e⟩ := List.getElem?_eq_some_iff.1 hx
  rw [List.drop_eq_getElem_cons hk, e, List.all_cons]
/-- the parents are directories just if all that a map's keys name have such -/
theorem homes_of {l : List File} (h : ∀ p ∈ pathsF l, kindF l (upS p) = 2) : homesB l = true :=
  List.all_eq_true.2 fun f hf => decide_eq_true (h f.path (List.mem_map.2 ⟨f, hf, rfl⟩))
theorem homes_not {l : List File} {p : ByteArray} (hp : p ∈ pathsF l) (h : kindF l (upS p) ≠ 2) : homesB l = false := by
  obtain ⟨f, hf, rfl⟩ := List.mem_map.1 hp
  refine List.all_eq_false.2 ⟨f, hf, ?_⟩
  simp [h]
theorem good_path {pre l : List File} (h : goodL pre l = true) : ∀ f ∈ l, diskPathB f.path = true := by
  induction l generalizing pre with
  | nil => intro f hf; cases hf
  | cons g t ih =>
    rw [goodL, Bool.and_eq_true] at h
    intro f hf
    rcases List.mem_cons.1 hf with rfl | hf
    · have := h.1
      unfold okF at this
      simp only [Bool.and_eq_true] at this
      exact this.1.2
    · exact ih h.2 f hf
theorem path_size {s : ByteArray} (h : diskPathB s = true) : s.size ≤ 4096 := by
  unfold diskPathB at h
  simp only [Bool.and_eq_true, decide_eq_true_eq] at h
  exact h.1
theorem up_size (s : ByteArray) : (upS s).size ≤ s.size + 1 := by
  unfold upS
  split
  · show 1 ≤ _; omega
  · rw [ByteArray.size_extract]; omega
end Go.Proofs.YtkpbpnecmfadlaaGreatDoor
