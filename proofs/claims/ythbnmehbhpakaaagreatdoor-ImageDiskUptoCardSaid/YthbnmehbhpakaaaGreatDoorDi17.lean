/-
  A project's files in plain words: which they are, that their paths are apart, and how they are put in order.
  A project as data, opened.
  walkup.formed: do a graph's edges lead to places?
-/
import Derived.Test.YthbnmehbhpakaaaGreatDoorDi15
import Derived.Test.YthbnmehbhpakaaaGreatDoorDi16
import Derived.KernelRfl
import Derived.Test.YthbnmehbhpakaaaGreatDoorDi07
import Derived.Test.YthbnmehbhpakaaaGreatDoorDi02
set_option autoImplicit false
set_option relaxedAutoImplicit false
set_option linter.unusedVariables false
set_option linter.unusedSimpArgs false
namespace Go.Proofs.YthbnmehbhpakaaaGreatDoor
open Go

/-! ### texts of parts -/
def sl : List (List UInt8) → List UInt8
  | [] => []
  | s :: t => 47 :: (s ++ sl t)
def mkP (k : List (List UInt8)) : ByteArray := ⟨(sl k).toArray⟩
def noSl (k : List (List UInt8)) : Prop := ∀ s ∈ k, ∀ b ∈ s, (b != 47) = true
theorem sl_append (a b : List (List UInt8)) : sl (a ++ b) = sl a ++ sl b := by
  induction a with
  | nil => rfl
  | cons s a ih => rw [List.cons_append, sl, ih, sl, List.cons_append, List.append_assoc]
theorem sl_head : ∀ (t : List (List UInt8)), sl t = [] ∨ ∃ r, sl t = 47 :: r
  | [] => .inl rfl
  | s :: t => .inr ⟨_, rfl⟩
theorem sl_inj : ∀ {a b : List (List UInt8)}, noSl a → noSl b → sl a = sl b → a = b
  | [], [], _, _, _ => rfl
  | [], s :: b, _, _, h => by cases h
  | s :: a, [], _, _, h => by cases h
  | s :: a, u :: b, ha, hb, h => by
    rw [sl, sl, List.cons.injEq] at h
    have h' := h.2
    have e1 := takeWhile_name (ha s (by simp)) (sl_head a)
    have e2 := takeWhile_name (hb u (by simp)) (sl_head b)
    rw [h', e2] at e1
    subst e1
    have e3 := List.append_cancel_left h'
    rw [sl_inj (fun x hx => ha x (by simp [hx])) (fun x hx => hb x (by simp [hx])) e3]
theorem mkP_inj {a b : List (List UInt8)} (ha : noSl a) (hb : noSl b) (h : mkP a = mkP b) : a = b := by
  refine sl_inj ha hb ?_
  have := congrArg (fun x : ByteArray => x.data.toList) h
  simpa [mkP] using this
theorem mkP_append (a b : List (List UInt8)) : mkP (a ++ b) = mkP a ++ mkP b := by
  apply ByteArray.ext
  simp [mkP, sl_append, ByteArray.data_append]

def modK : List UInt8 := [109, 111, 100, 117, 108, 101, 115]
def pkgK : List UInt8 := [112, 97, 99, 107, 97, 103, 101]
def manK : List UInt8 := [109, 97, 110, 105, 102, 101, 115, 116]
def lokK : List UInt8 := [108, 111, 99, 107]
def pruK : List UInt8 := [112, 114, 117, 110, 101, 100]
def segs : List ByteArray → List (List UInt8)
  | [] => []
  | s :: t => modK :: s.data.toList :: segs t
theorem joined_segs (p : List ByteArray) : joined p = sl (segs p) := by
  induction p with
  | nil => rfl
  | cons s t ih =>
    rw [joined, ih, segs, sl, sl]
    rw [show stepB.data.toList = 47 :: (modK ++ [47]) from by decide +kernel]
    simp [List.append_assoc]
theorem segs_clean {p : List ByteArray} (h : p.all nameB = true) : noSl (segs p) := by
  induction p with
  | nil => intro s hs; cases hs
  | cons x t ih =>
    rw [List.all_cons, Bool.and_eq_true] at h
    intro s hs
    rcases List.mem_cons.1 hs with rfl | hs
    · intro b hb; revert b hb; decide
    · rcases List.mem_cons.1 hs with rfl | hs
      · exact nameL_slash h.1
      · exact ih h.2 s hs
theorem segs_len (p : List ByteArray) : (segs p).length = 2 * p.length := by
  induction p with
  | nil => rfl
  | cons x t ih => rw [segs, List.length_cons, List.length_cons, ih, List.length_cons]; omega
theorem segs_inj : ∀ {a b : List ByteArray}, segs a = segs b → a = b
  | [], [], _ => rfl
  | [], s :: b, h => by cases h
  | s :: a, [], h => by cases h
  | s :: a, u :: b, h => by
    rw [segs, segs, List.cons.injEq, List.cons.injEq] at h
    have e : s = u := ByteArray.ext (Array.toList_inj.1 h.2.1)
    rw [e, segs_inj h.2.2]
theorem textB_segs {p : List ByteArray} (h0 : p ≠ []) (h : p.all nameB = true) : textB p = mkP (segs p) := by
  unfold textB
  rw [if_neg h0, if_pos h, joined_segs]
  rfl

/-! ### the files -/
structure Proj where
  man : Mani
  nodes : List Node
  dirs : List Dir
  pruned : Bool
def manF : ByteArray := ⟨#[47, 109, 97, 110, 105, 102, 101, 115, 116]⟩
def lokF : ByteArray := ⟨#[47, 108, 111, 99, 107]⟩
def pruF : ByteArray := ⟨#[47, 112, 114, 117, 110, 101, 100]⟩
def modF : ByteArray := ⟨#[47, 109, 111, 100, 117, 108, 101, 115]⟩
def pkgF : ByteArray := ⟨#[47, 112, 97, 99, 107, 97, 103, 101]⟩
def emB : ByteArray := ⟨#[]⟩
noncomputable def imgDir (xs : List Dir) (i : Nat) (d : Dir) : List File :=
  (if i = 0 then [] else [⟨textB d.path, true, emB⟩, ⟨textB d.path ++ pkgF, false, packText d.pack⟩]) ++ (if insideL xs i = [] then [] else [⟨if i = 0 then modF else textB d.path ++ modF, true, emB⟩])
noncomputable def imgDirs (xs : List Dir) : Nat → List Dir → List File
  | _, [] => []
  | i, d :: t => imgDir xs i d ++ imgDirs xs (i + 1) t
noncomputable def imgU (s : Proj) : List File := [⟨manF, false, maniText s.man⟩, ⟨lokF, false, lockText s.nodes⟩] ++ ((if s.pruned = true then [⟨pruF, false, emB⟩] else []) ++ imgDirs s.dirs 0 s.dirs)
theorem imgDirs_append (xs a b : List Dir) : ∀ i, imgDirs xs i (a ++ b) = imgDirs xs i a ++ imgDirs xs (i + a.length) b := by
  induction a with
  | nil => intro i; rfl
  | cons x a ih => intro i; rw [List.cons_append, imgDirs, ih, imgDirs, List.append_assoc, List.length_cons, show i + 1 + a.length = i + (a.length + 1) from by omega]
theorem imgDirs_take {xs l : List Dir} {k : Nat} {d : Dir} (h : l[k]? = some d) : imgDirs xs 0 (l.take (k + 1)) = imgDirs xs 0 (l.take k) ++ imgDir xs k d := by
  have hk := (List.getElem?_eq_some_iff.1 h).1
  rw [List.take_add_one, h, imgDirs_append, List.length_take, Nat.min_eq_left (by omega), Nat.zero_add]
  show _ ++ (imgDir xs k d ++ []) = _
  rw [List.append_nil]

/-! ### their paths are apart -/
noncomputable def keyDir (xs : List Dir) (i : Nat) (d : Dir) : List (List (List UInt8)) :=
  (if i = 0 then [] else [segs d.path, segs d.path ++ [pkgK]]) ++ (if insideL xs i = [] then [] else [segs d.path ++ [modK]])
noncomputable def keyDirs (xs : List Dir) : Nat → List Dir → List (List (List UInt8))
  | _, [] => []
  | i, d :: t => keyDir xs i d ++ keyDirs xs (i + 1) t
noncomputable def keyU (s : Proj) : List (List (List UInt8)) := [[manK], [lokK]] ++ ((if s.pruned = true then [[pruK]] else []) ++ keyDirs s.dirs 0 s.dirs)
/-- a directory that may stand at place i of a tree -/
def DirK (i : Nat) (d : Dir) : Prop := d.path.all nameB = true ∧ (i = 0 ↔ d.path = [])
theorem keyDir_paths {xs : List Dir} {i : Nat} {d : Dir} (h : DirK i d) : (imgDir xs i d).map (·.path) = (keyDir xs i d).map mkP := by
  unfold imgDir keyDir
  rw [List.map_append, List.map_append]
  by_cases h0 : i = 0
  · rw [if_pos h0, if_pos h0, if_pos h0, h.2.1 h0]
    by_cases h1 : insideL xs i = []
    · rw [if_pos h1, if_pos h1]; rfl
    · rw [if_neg h1, if_neg h1]
      show [modF] = [mkP ([] ++ [modK])]
      rw [show modF = mkP ([] ++ [modK]) from by apply ByteArray.ext; decide +kernel]
  · have hp : d.path ≠ [] := fun e => h0 (h.2.2 e)
    have hx : ∀ k : List UInt8, mkP (segs d.path ++ [k]) = textB d.path ++ mkP [k] := fun k => by rw [mkP_append, textB_segs hp h.1]
    rw [if_neg h0, if_neg h0, if_neg h0]
    have e1 : mkP [pkgK] = pkgF := by apply ByteArray.ext; decide +kernel
    have e2 : mkP [modK] = modF := by apply ByteArray.ext; decide +kernel
    by_cases h1 : insideL xs i = []
    · rw [if_pos h1, if_pos h1]
      show [textB d.path, textB d.path ++ pkgF] ++ [] = [mkP (segs d.path), mkP (segs d.path ++ [pkgK])] ++ []
      rw [hx, e1, textB_segs hp h.1]
    · rw [if_neg h1, if_neg h1]
      show [textB d.path, textB d.path ++ pkgF] ++ [textB d.path ++ modF] = [mkP (segs d.path), mkP (segs d.path ++ [pkgK])] ++ [mkP (segs d.path ++ [modK])]
      rw [hx, hx, e1, e2, textB_segs hp h.1]
theorem keyDirs_paths {xs : List Dir} : ∀ {l : List Dir} {i : Nat}, (∀ j d, l[j]? = some d → DirK (i + j) d) → (imgDirs xs i l).map (·.path) = (keyDirs xs i l).map mkP
  | [], _, _ => rfl
  | d :: l, i, h => by
    rw [imgDirs, keyDirs, List.map_append, List.map_append, keyDir_paths (show DirK i d from h 0 d rfl), keyDirs_paths (l := l) (i := i + 1) fun j e he => by
      have := h (j + 1) e he
      rwa [show i + (j + 1) = i + 1 + j from by omega] at this]
/-- the directory that a key is of -/
def homeK (k : List (List UInt8)) : List (List UInt8) := if k.length % 2 = 0 then k else k.dropLast
theorem keyDir_home {xs : List Dir} {i : Nat} {d : Dir} {k : List (List UInt8)} (h : k ∈ keyDir xs i d) : homeK k = segs d.path := by
  have e : ∀ x : List UInt8, homeK (segs d.path ++ [x]) = segs d.path := fun x => by
    unfold homeK
    rw [if_neg (by rw [List.length_append, segs_len, List.length_singleton]; omega), List.dropLast_concat]
  unfold keyDir at h
  rcases List.mem_append.1 h with h | h
  · split at h
    · cases h
    · rcases List.mem_cons.1 h with rfl | h
      · unfold homeK; rw [if_pos (by rw [segs_len]; omega)]
      · rw [List.mem_singleton.1 h, e]
  · split at h
    · cases h
    · rw [List.mem_singleton.1 h, e]
theorem keyDirs_home {xs : List Dir} : ∀ {l : List Dir} {i : Nat} {k : List (List UInt8)}, k ∈ keyDirs xs i l → ∃ d ∈ l, homeK k = segs d.path
  | [], _, k, h => by cases h
  | d :: l, i, k, h => by
    rw [keyDirs] at h
    rcases List.mem_append.1 h with h | h
    · exact ⟨d, by simp, keyDir_home h⟩
    · obtain ⟨e, he, h2⟩ := keyDirs_home h
      exact ⟨e, by simp [he], h2⟩
theorem keyDir_nodup (xs : List Dir) (i : Nat) (d : Dir) : (keyDir xs i d).Nodup := by
  have hz := segs_len d.path
  have e1 : ∀ x : List UInt8, segs d.path ≠ segs d.path ++ [x] := fun x e => by
    have := congrArg List.length e
    rw [List.length_append, List.length_singleton] at this
    omega
  have e2 : segs d.path ++ [pkgK] ≠ segs d.path ++ [modK] := fun e => by
    have := List.append_cancel_left e
    revert this; decide
  unfold keyDir
  by_cases h0 : i = 0 <;> by_cases h1 : insideL xs i = []
  · rw [if_pos h0, if_pos h1]; exact List.nodup_nil
  · rw [if_pos h0, if_neg h1]; simp
  · rw [if_neg h0, if_pos h1]; simp [e1]
  · rw [if_neg h0, if_neg h1]; simp [e1, e2]
theorem keyDirs_nodup {xs : List Dir} : ∀ {l : List Dir} {i : Nat}, (l.map (·.path)).Nodup → (keyDirs xs i l).Nodup
  | [], _, _ => List.nodup_nil
  | d :: l, i, h => by
    rw [List.map_cons, List.nodup_cons] at h
    rw [keyDirs, List.nodup_append]
    refine ⟨keyDir_nodup xs i d, keyDirs_nodup h.2, fun a ha b hb e => ?_⟩
    subst e
    obtain ⟨f, hf, h2⟩ := keyDirs_home hb
    rw [keyDir_home ha] at h2
    exact h.1 (List.mem_map.2 ⟨f, hf, (segs_inj h2).symm⟩)
theorem keyDirs_clean {xs : List Dir} : ∀ {l : List Dir} {i : Nat}, (∀ d ∈ l, d.path.all nameB = true) → ∀ k ∈ keyDirs xs i l, noSl k
  | [], _, _, k, hk => by cases hk
  | d :: l, i, h, k, hk => by
    have hd := segs_clean (h d (by simp))
    have hx : ∀ x : List UInt8, (∀ b ∈ x, (b != 47) = true) → noSl (segs d.path ++ [x]) := fun x hx s hs => by
      rcases List.mem_append.1 hs with hs | hs
      · exact hd s hs
      · rw [List.mem_singleton.1 hs]; exact hx
    rw [keyDirs] at hk
    rcases List.mem_append.1 hk with hk | hk
    · unfold keyDir at hk
      rcases List.mem_append.1 hk with hk | hk
      · split at hk
        · cases hk
        · rcases List.mem_cons.1 hk with rfl | hk
          · exact hd
          · rw [List.mem_singleton.1 hk]; exact hx _ (by decide)
      · split at hk
        · cases hk
        · rw [List.mem_singleton.1 hk]; exact hx _ (by decide)
    · exact keyDirs_clean (fun e he => h e (by simp [he])) k hk
/-- a directory without a parent's: of a key of two or more parts, or of the root's -/
theorem keyDirs_one {xs : List Dir} : ∀ {l : List Dir} {i : Nat} {x : List UInt8}, (∀ j d, l[j]? = some d → DirK (i + j) d) → [x] ∈ keyDirs xs i l → x = modK
  | [], _, x, _, h => by cases h
  | d :: l, i, x, hd, h => by
    rw [keyDirs] at h
    rcases List.mem_append.1 h with h | h
    · have hz := segs_len d.path
      have hs : ∀ y : List UInt8, [x] = segs d.path ++ [y] → x = y := fun y e => by
        have h1 := congrArg List.length e
        rw [List.length_append, List.length_singleton, List.length_singleton] at h1
        have h2 : segs d.path = [] := List.eq_nil_of_length_eq_zero (by omega)
        rw [h2] at e
        simpa using e
      unfold keyDir at h
      rcases List.mem_append.1 h with h | h
      · split at h
        · cases h
        · rename_i h0
          rcases List.mem_cons.1 h with e | h
          · have h1 := congrArg List.length e
            rw [List.length_singleton] at h1
            omega
          · have e := List.mem_singleton.1 h
            have h1 := congrArg List.length e
            rw [List.length_append, List.length_singleton, List.length_singleton] at h1
            have h2 : d.path = [] := List.eq_nil_of_length_eq_zero (by omega)
            have := (hd 0 d rfl).2.2 h2
            omega
      · split at h
        · cases h
        · exact hs _ (List.mem_singleton.1 h)
    · exact keyDirs_one (fun j e he => by
        have := hd (j + 1) e he
        rwa [show i + (j + 1) = i + 1 + j from by omega] at this) h
theorem imgU_nodup {s : Proj} (h : ∀ j d, s.dirs[j]? = some d → DirK j d) (hn : (s.dirs.map (·.path)).Nodup) : ((imgU s).map (·.path)).Nodup := by
  have hall : ∀ d ∈ s.dirs, d.path.all nameB = true := fun d hd => by
    obtain ⟨j, hj, e⟩ := List.getElem_of_mem hd
    exact (h j d (by rw [List.getElem?_eq_getElem hj, e])).1
  have hd : ∀ j d, s.dirs[j]? = some d → DirK (0 + j) d := fun j d e => by rw [Nat.zero_add]; exact h j d e
  have e : (imgU s).map (·.path) = (keyU s).map mkP := by
    unfold imgU keyU
    rw [List.map_append, List.map_append, List.map_append, List.map_append, keyDirs_paths hd]
    have e1 : mkP [manK] = manF := by apply ByteArray.ext; decide +kernel
    have e2 : mkP [lokK] = lokF := by apply ByteArray.ext; decide +kernel
    have e3 : mkP [pruK] = pruF := by apply ByteArray.ext; decide +kernel
    show [manF, lokF] ++ _ = [mkP [manK], mkP [lokK]] ++ _
    rw [e1, e2]
    congr 2
    split
    · show [pruF] = [mkP [pruK]]
      rw [e3]
    · rfl
  rw [e]
  have hclean : ∀ k ∈ keyU s, noSl k := fun k hk => by
    have h1 : ∀ x : List UInt8, (∀ b ∈ x, (b != 47) = true) → noSl [x] := fun x hx s hs => by rw [List.mem_singleton.1 hs]; exact hx
    unfold keyU at hk
    rcases List.mem_append.1 hk with hk | hk
    · rcases List.mem_cons.1 hk with rfl | hk
      · exact h1 _ (by decide)
      · rw [List.mem_singleton.1 hk]; exact h1 _ (by decide)
    · rcases List.mem_append.1 hk with hk | hk
      · split at hk
        · rw [List.mem_singleton.1 hk]; exact h1 _ (by decide)
        · cases hk
      · exact keyDirs_clean hall k hk
  have hkn : (keyU s).Nodup := by
    have o1 : ∀ x : List UInt8, x ≠ modK → [x] ∉ keyDirs s.dirs 0 s.dirs := fun x hx hk => hx (keyDirs_one hd hk)
    have o2 := keyDirs_nodup (xs := s.dirs) (i := 0) hn
    have q1 := o1 manK (by decide)
    have q2 := o1 lokK (by decide)
    have q3 := o1 pruK (by decide)
    unfold keyU
    have n1 : [manK] ≠ [lokK] := by decide
    have n2 : [manK] ≠ [pruK] := by decide
    have n3 : [lokK] ≠ [pruK] := by decide
    cases s.pruned
    · rw [if_neg (by decide), List.nil_append]
      simp only [List.cons_append, List.nil_append, List.nodup_cons, List.mem_cons, not_or]
      exact ⟨⟨n1, q1⟩, q2, o2⟩
    · rw [if_pos rfl]
      simp only [List.cons_append, List.nil_append, List.nodup_cons, List.mem_cons, not_or]
      exact ⟨⟨n1, n2, q1⟩, ⟨n3, q2⟩, q3, o2⟩
  rw [List.nodup_iff_pairwise_ne, List.pairwise_map]
  refine hkn.imp_of_mem ?_
  intro a b ha hb hab e
  exact hab (mkP_inj (hclean a ha) (hclean b hb) e)

/-! ### in order -/
def putS (l : List File) (f : File) : List File := l.takeWhile (fun g => lessB g.path f.path) ++ f :: l.dropWhile (fun g => lessB g.path f.path)
def sortS (l : List File) : List File := l.foldl putS []
theorem putS_perm (l : List File) (f : File) : (putS l f).Perm (l ++ [f]) := by
  unfold putS
  have e := List.takeWhile_append_dropWhile (p := fun g : File => lessB g.path f.path) (l := l)
  refine List.perm_middle.trans ?_
  rw [e]
  exact (List.perm_append_singleton f l).symm
theorem sortS_go (l : List File) : ∀ a, (l.foldl putS a).Perm (a ++ l) := by
  induction l with
  | nil => intro a; rw [List.append_nil]; exact List.Perm.refl _
  | cons f l ih =>
    intro a
    rw [List.foldl_cons]
    refine (ih (putS a f)).trans ?_
    refine ((putS_perm a f).append_right l).trans ?_
    rw [List.append_assoc]
    exact List.Perm.refl _
theorem sortS_perm (l : List File) : (sortS l).Perm l := sortS_go l []
def upF (x y : File) : Prop := lessB y.path x.path = false
theorem less_tr {a b c : ByteArray} (h1 : lessB b a = false) (h2 : lessB c b = false) : lessB c a = false := by
  rw [lessB_lt, decide_eq_false_iff_not] at *
  rw [List.not_lt] at *
  exact List.le_trans h1 h2
theorem less_as {a b : ByteArray} (h : lessB a b = true) : lessB b a = false := by
  cases hb : lessB b a with
  | false => rfl
  | true => have := lessB_trans h hb; rw [lessB_irrefl] at this; cases this
theorem putS_sorted {l : List File} {f : File} (h : l.Pairwise upF) : (putS l f).Pairwise upF := by
  induction l with
  | nil => exact List.pairwise_singleton _ _
  | cons g l ih =>
    rw [List.pairwise_cons] at h
    unfold putS
    rw [List.takeWhile_cons, List.dropWhile_cons]
    cases hg : lessB g.path f.path with
    | true =>
      rw [if_pos rfl, if_pos rfl, List.cons_append, List.pairwise_cons]
      refine ⟨fun y hy => ?_, ih h.2⟩
      have hy' : y ∈ putS l f := hy
      rcases List.mem_append.1 ((putS_perm l f).mem_iff.1 hy') with hy | hy
      · exact h.1 y hy
      · rw [List.mem_singleton.1 hy]; exact less_as hg
    | false =>
      rw [if_neg (by decide), if_neg (by decide), List.nil_append, List.pairwise_cons]
      refine ⟨fun y hy => ?_, List.pairwise_cons.2 h⟩
      rcases List.mem_cons.1 hy with rfl | hy
      · exact hg
      · exact less_tr hg (h.1 y hy)
theorem sortS_sorted (l : List File) : (sortS l).Pairwise upF := by
  unfold sortS
  have : ∀ (l a : List File), a.Pairwise upF → (l.foldl putS a).Pairwise upF := fun l => by
    induction l with
    | nil => intro a h; exact h
    | cons f l ih => intro a h; exact ih _ (putS_sorted h)
  exact this l [] List.Pairwise.nil
theorem nodup_path {l : List File} (h : (l.map (·.path)).Nodup) {a b : File} (ha : a ∈ l) (hb : b ∈ l) (e : a.path = b.path) : a = b := by
  induction l with
  | nil => cases ha
  | cons x l ih =>
    rw [List.map_cons, List.nodup_cons] at h
    rcases List.mem_cons.1 ha with ea | ha' <;> rcases List.mem_cons.1 hb with eb | hb'
    · rw [ea, eb]
    · exact absurd (List.mem_map.2 ⟨b, hb', by rw [← e, ea]⟩) h.1
    · exact absurd (List.mem_map.2 ⟨a, ha', by rw [e, eb]⟩) h.1
    · exact ih h.2 ha' hb'
theorem sort_unique {l M : List File} (hn : (l.map (·.path)).Nodup) (hp : M.Perm l) (hM : M.Pairwise upF) : M = sortS l := by
  refine List.Perm.eq_of_pairwise (le := upF) ?_ hM (sortS_sorted l) (hp.trans (sortS_perm l).symm)
  intro a b ha hb h1 h2
  refine nodup_path hn (hp.mem_iff.1 ha) ((sortS_perm l).mem_iff.1 hb) ?_
  unfold upF at h1 h2
  rw [lessB_lt, decide_eq_false_iff_not, List.not_lt] at h1 h2
  exact ByteArray.ext (Array.toList_inj.1 (List.le_antisymm h1 h2))
end Go.Proofs.YthbnmehbhpakaaaGreatDoor
namespace Go.Proofs.YthbnmehbhpakaaaGreatDoor
open Go.ChangeShapes Go.WideShapes Go.ChangeAt Go.RowKit
set_option linter.unusedVariables false
set_option linter.unusedSimpArgs false

def rProj : Rp Proj where
  size := 7
  holds := fun w S x cs => ∃ s0 s1 s2 s3 s4 s5, cs = [s0, s1, s2, s3, s4, s5, .bool x.pruned] ∧ SlV rDep w S x.man.deps s0 ∧ SlV rDep w S x.man.dev s1 ∧ SlV rDep w S x.man.opts s2 ∧ SlV rDep w S x.man.over s3 ∧ SlV rNode w S x.nodes s4 ∧ SlV rDir w S x.dirs s5
  len := fun ⟨s0, s1, s2, s3, s4, s5, h, c0, c1, c2, c3, c4, c5⟩ => by rw [h]; rfl
  one := fun ⟨s0, s1, s2, s3, s4, s5, h, c0, c1, c2, c3, c4, c5⟩ => by obtain ⟨_, _, rfl, _⟩ := c0.val; obtain ⟨_, _, rfl, _⟩ := c1.val; obtain ⟨_, _, rfl, _⟩ := c2.val; obtain ⟨_, _, rfl, _⟩ := c3.val; obtain ⟨_, _, rfl, _⟩ := c4.val; obtain ⟨_, _, rfl, _⟩ := c5.val; rw [h]; simp [Value.oneCell']
  mono := fun ⟨s0, s1, s2, s3, s4, s5, h, c0, c1, c2, c3, c4, c5⟩ hk => ⟨s0, s1, s2, s3, s4, s5, h, (rSlice rDep).mono c0 hk, (rSlice rDep).mono c1 hk, (rSlice rDep).mono c2 hk, (rSlice rDep).mono c3 hk, (rSlice rNode).mono c4 hk, (rSlice rDir).mono c5 hk⟩

def bkProj (x : Proj) : Nat := 1 + bkMani x.man + (1 + bkL bkNode x.nodes) + (1 + bkL bkDir x.dirs) + 1
set_option maxRecDepth 100000 in
theorem opensB_Proj : OpensB Tryz.prog 32 rProj bkProj := by
  intro H enc w base fuel cs x h
  obtain ⟨xs, n, rfl, rfl, hlen, hxl, hf⟩ := DataW.trod_struct Tryz.underlying32 h
  rw [show Tryz.prog.cellsOf 32 = 7 from by kernel_rfl] at hlen
  match cs, hlen with
  | [c0, c1, c2, c3, c4, c5, c6], _ =>
    have k0 : Tryz.prog.cellsOf 24 = 4 := by kernel_rfl
    have k1 : Tryz.prog.cellsOf 27 = 1 := by kernel_rfl
    have k2 : Tryz.prog.cellsOf 30 = 1 := by kernel_rfl
    have k3 : Tryz.prog.cellsOf 4 = 1 := by kernel_rfl
    have f0 := hf 0 _ rfl
    have f1 := hf 1 _ rfl
    have f2 := hf 2 _ rfl
    have f3 := hf 3 _ rfl
    match xs, hxl with
    | [x0, x1, x2, x3], _ =>
      simp [k0, k1, k2, k3] at f0 f1 f2 f3
      obtain ⟨y0, ⟨v0, v1, v2, v3, h0, g0, g1, g2, g3⟩, b0⟩ := opensB_Mani H enc w base n [c0, c1, c2, c3] x0 f0
      simp only [List.cons.injEq, and_true] at h0
      obtain ⟨rfl, rfl, rfl, rfl⟩ := h0
      obtain ⟨y1, ⟨v4, h1, g4⟩, b1⟩ := opensB_Graph H enc w base n [c4] x1 f1
      simp only [List.cons.injEq, and_true] at h1
      subst h1
      obtain ⟨y2, ⟨v5, h2, g5⟩, b2⟩ := opensB_Tree H enc w base n [c5] x2 f2
      simp only [List.cons.injEq, and_true] at h2
      subst h2
      obtain ⟨y3, h3, b3⟩ := opensB_bool Tryz.underlying4 H enc w base n [c6] x3 f3
      have h3' : [c6] = [Value.bool y3] := h3
      simp only [List.cons.injEq, and_true] at h3'
      subst h3'
      refine ⟨⟨y0, y1.nodes, y2.dirs, y3⟩, ⟨_, _, _, _, _, _, rfl, g0, g1, g2, g3, g4, g5⟩, ?_⟩
      simp only [bkProj, bkGraph, bkTree, Rows.uptoBulk, Rows.uptoBulkAll, List.map_cons, List.map_nil] at *
      omega

/-- a project's value -/
def ProjV (w : World) (S : Nat → Prop) (x : Proj) (v : Value) : Prop :=
  ∃ A0 n0 c0 A1 n1 c1 A2 n2 c2 A3 n3 c3 A4 n4 c4 A5 n5 c5, v = .agg #[.slice A0 n0 c0, .slice A1 n1 c1, .slice A2 n2 c2, .slice A3 n3 c3, .slice A4 n4 c4, .slice A5 n5 c5, .bool x.pruned] ∧
    SlV rDep w S x.man.deps (.slice A0 n0 c0) ∧ SlV rDep w S x.man.dev (.slice A1 n1 c1) ∧ SlV rDep w S x.man.opts (.slice A2 n2 c2) ∧ SlV rDep w S x.man.over (.slice A3 n3 c3) ∧ SlV rNode w S x.nodes (.slice A4 n4 c4) ∧ SlV rDir w S x.dirs (.slice A5 n5 c5)
set_option maxRecDepth 100000 in
theorem proj_arg {H : Type} {enc : TypeId × Value → H} {w : World} {v : Value} {d : DataW H} {ps : List MemPlace} {base : Nat} {r : Reach}
    (hv : Value.okWide Tryz.prog w r base 32 v) (h : DataW.Trod enc Tryz.prog w 0 (fun _ => true) true 32 v d ps) :
    ∃ x : Proj, ProjV w (fun b => b < w.heap.size) x v ∧ bkProj x ≤ Rows.uptoBulk d := by
  obtain ⟨y, hy, hbk⟩ := opensB_arg opensB_Proj h
  obtain ⟨cs, rfl, _⟩ := okWide_struct Tryz.underlying32 hv
  obtain ⟨s0, s1, s2, s3, s4, s5, hcs, g0, g1, g2, g3, g4, g5⟩ := hy
  obtain ⟨A0, c0, rfl, _, _⟩ := g0.val
  obtain ⟨A1, c1, rfl, _, _⟩ := g1.val
  obtain ⟨A2, c2, rfl, _, _⟩ := g2.val
  obtain ⟨A3, c3, rfl, _, _⟩ := g3.val
  obtain ⟨A4, c4, rfl, _, _⟩ := g4.val
  obtain ⟨A5, c5, rfl, _, _⟩ := g5.val
  have e : cs.toList = [.slice A0 y.man.deps.length c0, .slice A1 y.man.dev.length c1, .slice A2 y.man.opts.length c2, .slice A3 y.man.over.length c3, .slice A4 y.nodes.length c4, .slice A5 y.dirs.length c5, .bool y.pruned] := hcs
  obtain rfl : cs = #[.slice A0 y.man.deps.length c0, .slice A1 y.man.dev.length c1, .slice A2 y.man.opts.length c2, .slice A3 y.man.over.length c3, .slice A4 y.nodes.length c4, .slice A5 y.dirs.length c5, .bool y.pruned] := Array.ext' e
  exact ⟨y, ⟨_, _, _, _, _, _, _, _, _, _, _, _, _, _, _, _, _, _, rfl, g0, g1, g2, g3, g4, g5⟩, hbk⟩
end Go.Proofs.YthbnmehbhpakaaaGreatDoor
set_option autoImplicit false
set_option relaxedAutoImplicit false
set_option linter.unusedVariables false
set_option linter.unusedSimpArgs false
namespace Go.Proofs.YthbnmehbhpakaaaGreatDoor
open Go.Rows Go.RowKit Go.Shelf Go.Sort

def edgeB (m : Nat) (e : Edge) : Bool := decide (1 ≤ e.to) && decide (e.to < (m : Int))
def nodeB (m : Nat) (x : Node) : Bool := x.edges.all (edgeB m)
def formedB (g : List Node) : Bool := g.all (nodeB g.length) && decide (0 < g.length)
theorem allL_at {α : Type} {q : α → Bool} {l : List α} {k : Nat} (h : k < l.length) : (l.drop k).all q = (q l[k] && (l.drop (k + 1)).all q) := by
  rw [List.drop_eq_getElem_cons h, List.all_cons]

set_option maxHeartbeats 3200000 in
set_option maxRecDepth 100000 in
theorem formed_any (A : Option Addr) (n c : Nat) (g : List Node) (w : World) (S : Nat → Prop) (hx : SlV rNode w S g (.slice A n c)) :
    Calls Tryz.prog 104 #[.agg #[.slice A n c]] w fun e w' => e = .returned (.bool (formedB g)) ∧ Below w.heap.size w w' := by
  have hnx := hx.n_eq
  have hcx := hx.cap_le
  unfold maxLen at hcx
  have hn63 : n ≤ 9223372036854775807 := by omega
  have HX := Lib.hid (hx.more (S' := fun b => b < w.heap.size) fun b _ h => h)
  have HR : Hid (formedB g = ((g.drop 0).all (nodeB n) && decide (0 < n))) := by unfold Hid formedB; rw [hnx]; rfl
  have Hnx := Lib.hid hnx; clear hnx
  clear hx hcx
  generalize formedB g = R at *
  go_enter Tryz.func104, Tryz.ntmps104
  go_wp2_with fail
  obtain ⟨w0, hw0⟩ : ∃ w0, w0 = w.alloc (.cells #[.slice A n c] 27) := ⟨_, rfl⟩
  have hz : w.heap.size < w0.heap.size := by rw [hw0]; simp [go_sem]
  have hb0 : Below w.heap.size w w0 := by rw [hw0]; exact bal (Below.refl _ _) _
  have a0 : w0.cell? ⟨w.heap.size, 0, none⟩ = some (.slice A n c) := by rw [hw0]; simp [go_sem]
  rw [← hw0]
  clear hw0
  have HB0 := Lib.hid hb0; clear hb0
  go_loopw [10] (fun i wr => ∃ k : Nat, k ≤ n ∧ i = .int .i64 k ∧ Hid (R = ((g.drop k).all (nodeB n) && decide (0 < n))) ∧ Below w0.heap.size w0 wr) (fun i _ => n - (intOf i).toNat)
  case atStart => exact ⟨0, Nat.zero_le _, rfl, HR, Below.refl _ _⟩
  case round =>
    obtain ⟨k, hk, rfl, heq, hbel⟩ := hrel
    have b0 := below_cell hbel a0 hz
    have hbel' := bot HB0.out hbel
    by_cases hlt : k < n
    · have hkx : k < g.length := by have := Hnx.out; omega
      obtain ⟨b, oo, cs, rfl, _, hb1, hh, hcell⟩ := (HX.out.below hbel' (fun b h => h)).elem (List.getElem?_eq_getElem hkx)
      have Hat := Lib.hid (allL_at (q := nodeB n) hkx)
      have Hnd : Hid (nodeB n g[k] = (g[k].edges.drop 0).all (edgeB n)) := rfl
      obtain ⟨s0, s1, rfl, _, _, _, _, hp1, hp2⟩ := hh
      obtain ⟨pA, pa, rfl, _, _⟩ := hp1.val
      obtain ⟨qA, qa, rfl, hq1, hq2⟩ := hp2.val
      unfold maxLen at hq2
      have c0 := hcell 0 _ rfl
      have c1 := hcell 1 _ rfl
      have c2 := hcell 2 _ rfl
      have c3 := hcell 3 _ rfl
      have c4 := hcell 4 _ rfl
      have c5 := hcell 5 _ rfl
      simp only [rNode, Nat.add_zero] at c0 c1 c2 c3 c4 c5
      have HE : Hid (SlV rEdge wr (fun b => b < wr.heap.size) g[k].edges (.slice qA g[k].edges.length qa)) := SlV.more hp2 (fun b _ h => h)
      clear hcell hp1 hp2
      have hk0 : (0 : Int) ≤ (k : Int) := by omega
      have hkn : (k : Int) < (n : Int) := by omega
      have hn0 : decide (0 < n) = true := decide_eq_true (by omega)
      generalize nodeB n g[k] = nb at *
      generalize g[k].ctx.length = l1 at *
      generalize g[k].name = nm at *
      generalize g[k].ver.major = y1 at *
      generalize g[k].ver.minor = y2 at *
      generalize g[k].ver.patch = y3 at *
      generalize g[k].edges = es at *
      generalize hl0 : es.length = m at *
      have Hm := Lib.hid hl0; clear hl0
      obtain ⟨wo, rfl⟩ : ∃ wo : World, wo = wr := ⟨_, rfl⟩
      go_wp2_with fail
      obtain ⟨w1, hw1⟩ : ∃ w1, w1 = wo.alloc (.cells #[.string nm, .int .i64 y1, .int .i64 y2, .int .i64 y3, .slice pA l1 pa, .slice qA m qa] 63) := ⟨_, rfl⟩
      have hb1' : Below wo.heap.size wo w1 := by rw [hw1]; exact bal (Below.refl _ _) _
      rw [← hw1]
      clear hw1 c0 c1 c2 c3 c4 c5 b0
      go_loopw [17] (fun i wr => ∃ q : Nat, q ≤ m ∧ i = .int .i64 q ∧ Hid (nb = (es.drop q).all (edgeB n)) ∧ Below wo.heap.size wo wr) (fun i _ => m - (intOf i).toNat)
      case atStart => exact ⟨0, Nat.zero_le _, rfl, Hnd, hb1'⟩
      case round =>
        clear hb1'
        obtain ⟨q, hq, rfl, hnb, hbr⟩ := hrel
        have hbt := bot hbel hbr
        have hbt' := bot HB0.out hbt
        have b0 := below_cell hbt a0 hz
        have hzr : w.heap.size < wr.heap.size := Nat.lt_of_lt_of_le hz hbt.size
        by_cases hlq : q < m
        · have hqy : q < es.length := by have := Hm.out; omega
          obtain ⟨b', oo', cs', rfl, _, hb2, ⟨rfl, _, hI1, hI2⟩, hcell'⟩ := (HE.out.below hbr (fun b h => h)).elem (List.getElem?_eq_getElem hqy)
          have d0 := hcell' 0 _ rfl
          have d1 := hcell' 1 _ rfl
          simp only [rEdge, Nat.add_zero] at d0 d1
          have Hae := Lib.hid (allL_at (q := edgeB n) hqy)
          have Hed : Hid (edgeB n es[q] = (decide (1 ≤ es[q].to) && decide (es[q].to < (n : Int)))) := rfl
          have bo : ∀ o : Obj, (wr.alloc o).cell? ⟨w.heap.size, 0, none⟩ = some (.slice (some ⟨b, oo, none⟩) n c) := fun o => below_cell (bal (Below.refl _ _) o) b0 hzr
          clear hcell'
          have hq0 : (0 : Int) ≤ (q : Int) := by omega
          have hqm : (q : Int) < (m : Int) := by omega
          generalize edgeB n es[q] = eb at *
          generalize es[q].to = tq at *
          generalize es[q].label = lb at *
          by_cases h1 : tq < 1
          · have hd : decide (tq < 1) = true := decide_eq_true h1
            have He : Hid (R = false) := by unfold Hid; rw [heq.out, Hat.out, hnb.out, Hae.out, Hed.out, decide_eq_false (by omega)]; rfl
            go_wp2_with fail
            go_ret
            exact ⟨ret_bool He.out.symm, bal hbt' _⟩
          · have hd : decide (tq < 1) = false := decide_eq_false h1
            by_cases h2 : (n : Int) ≤ tq
            · have hd2 : decide ((n : Int) ≤ tq) = true := decide_eq_true h2
              have He : Hid (R = false) := by unfold Hid; rw [heq.out, Hat.out, hnb.out, Hae.out, Hed.out, decide_eq_true (show 1 ≤ tq by omega), decide_eq_false (show ¬ tq < (n : Int) by omega)]; rfl
              go_wp2_with fail
              go_ret
              exact ⟨ret_bool He.out.symm, bal hbt' _⟩
            · have hd2 : decide ((n : Int) ≤ tq) = false := decide_eq_false h2
              have He : Hid (nb = (es.drop (q + 1)).all (edgeB n)) := by unfold Hid; rw [hnb.out, Hae.out, Hed.out, decide_eq_true (show 1 ≤ tq by omega), decide_eq_true (show tq < (n : Int) by omega)]; rfl
              clear hnb Hae Hed
              go_wp2_with fail
              go_roundw
              case rel => exact ⟨q + 1, by omega, by go_num, He, bal hbr _⟩
              case measure => simp [intOf]; omega
        · have Hnb : Hid (nb = true) := by unfold Hid; rw [hnb.out, List.drop_eq_nil_of_le (by have := Hm.out; omega)]; rfl
          have He : Hid (R = ((g.drop (k + 1)).all (nodeB n) && decide (0 < n))) := by unfold Hid; rw [heq.out, Hat.out, Hnb.out]; rfl
          clear heq Hat hnb Hnb
          go_wp2_with fail
          go_roundw
          case rel => exact ⟨k + 1, by omega, by go_num, He, hbt⟩
          case measure => simp [intOf]; omega
    · have He : Hid (R = decide (0 < n)) := by unfold Hid; rw [heq.out, List.drop_eq_nil_of_le (by have := Hnx.out; omega)]; rfl
      go_wp2_with fail
      go_ret
      exact ⟨ret_bool (by rw [He.out]), hbel'⟩
end Go.Proofs.YthbnmehbhpakaaaGreatDoor
