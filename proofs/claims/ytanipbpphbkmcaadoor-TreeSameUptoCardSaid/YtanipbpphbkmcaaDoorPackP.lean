/-
  Packages in plain words: their texts, what may be; the two ways of asking that no name stands twice agree.
-/
import Derived.Test.YtanipbpphbkmcaaDoorApart
import Derived.Test.YtanipbpphbkmcaaDoorListM
import Derived.Test.YtanipbpphbkmcaaDoorSameP
import Derived.Test.YtanipbpphbkmcaaDoorSpanP
set_option autoImplicit false
set_option relaxedAutoImplicit false
set_option linter.unusedVariables false
set_option linter.unusedSimpArgs false
namespace Go.Proofs.YtanipbpphbkmcaaDoor
open Go

def nlB : ByteArray := ⟨#[10]⟩
def lineD (word : ByteArray) (d : Dep) : ByteArray := word ++ spaceB ++ d.name ++ spaceB ++ spansText d.range ++ nlB
def linesD (word : ByteArray) : List Dep → ByteArray
  | [] => ⟨#[]⟩
  | d :: l => lineD word d ++ linesD word l
def packW : ByteArray := ⟨#[112, 97, 99, 107, 97, 103, 101, 32]⟩
def needsW : ByteArray := ⟨#[110, 101, 101, 100, 115]⟩
def besideW : ByteArray := ⟨#[98, 101, 115, 105, 100, 101]⟩
def likesW : ByteArray := ⟨#[108, 105, 107, 101, 115]⟩
def packHead (p : Pack) : ByteArray := packW ++ p.name ++ spaceB ++ verText p.ver.major p.ver.minor p.ver.patch ++ nlB
def packText (p : Pack) : ByteArray := packHead p ++ linesD needsW p.deps ++ linesD besideW p.peers ++ linesD likesW p.opts

theorem linesD_append (word : ByteArray) (a b : List Dep) : linesD word (a ++ b) = linesD word a ++ linesD word b := by
  induction a with
  | nil => apply ByteArray.ext; simp [linesD, ByteArray.data_append]
  | cons d a ih => rw [List.cons_append, linesD, ih, linesD]; apply ByteArray.ext; simp [ByteArray.data_append]
theorem linesD_take (word : ByteArray) {l : List Dep} {k : Nat} (h : k < l.length) : linesD word (l.take (k + 1)) = linesD word (l.take k) ++ lineD word l[k] := by
  rw [List.take_succ_eq_append_getElem h, linesD_append]
  apply ByteArray.ext; simp [linesD, ByteArray.data_append]
theorem lineD_le {word : ByteArray} {d : Dep} (hw : word.size ≤ 10) (hd : d.name.size ≤ 16) : (lineD word d).size ≤ 2100 := by
  have := spansText_le d.range
  have z1 : spaceB.size = 1 := rfl
  have z2 : nlB.size = 1 := rfl
  unfold lineD
  simp only [ByteArray.size_append]
  omega
theorem linesD_le {word : ByteArray} {l : List Dep} (hw : word.size ≤ 10) (hd : ∀ d ∈ l, d.name.size ≤ 16) : (linesD word l).size ≤ 2100 * l.length := by
  induction l with
  | nil => exact Nat.le_refl _
  | cons d l ih =>
    have h1 := lineD_le hw (hd d (by simp))
    have h2 := ih (fun x hx => hd x (by simp [hx]))
    rw [linesD, ByteArray.size_append, List.length_cons]
    omega

theorem listGo_mem : ∀ {l : List Dep} {p : Option ByteArray}, listGo p l = true → ∀ d ∈ l, nameB d.name = true ∧ spansB d.range = true := by
  intro l
  induction l with
  | nil => intro p _ d hd; cases hd
  | cons x l ih =>
    intro p h d hd
    simp only [listGo, Bool.and_eq_true] at h
    rcases List.mem_cons.1 hd with rfl | hd
    · exact ⟨h.1.1, h.1.2.1⟩
    · exact ih h.2 d hd
theorem nameB_size {s : ByteArray} (h : nameB s = true) : s.size ≤ 16 := by
  rcases Nat.lt_or_ge 16 s.size with h' | h'
  · have : nameL s.data.toList = false := name_long (by rw [Array.length_toList]; exact h')
    unfold nameB at h; rw [this] at h; cases h
  · exact h'
theorem listB_small {l : List Dep} (h : listB l = true) : l.length ≤ 16 ∧ ∀ d ∈ l, d.name.size ≤ 16 := by
  simp only [listB, Bool.and_eq_true, decide_eq_true_eq] at h
  exact ⟨h.2, fun d hd => nameB_size (listGo_mem h.1 d hd).1⟩

theorem bl_lt : ∀ (x y : List UInt8), Op.bytesLess x y = decide (x < y) := by
  intro x
  induction x with
  | nil => intro y; cases y <;> simp [Op.bytesLess]
  | cons a x ih =>
    intro y
    cases y with
    | nil => simp [Op.bytesLess]
    | cons b y =>
      rw [Op.bytesLess, ih y, Bool.eq_iff_iff]
      simp [List.cons_lt_cons_iff]
theorem lessB_lt (a b : ByteArray) : lessB a b = decide (a.data.toList < b.data.toList) := by
  unfold lessB; rw [bl_lt, Go.ByteArray.toList_eq, Go.ByteArray.toList_eq]
theorem lessB_irrefl (a : ByteArray) : lessB a a = false := by
  rw [lessB_lt]; simp
theorem lessB_trans {a b c : ByteArray} (h1 : lessB a b = true) (h2 : lessB b c = true) : lessB a c = true := by
  rw [lessB_lt, decide_eq_true_eq] at *
  exact List.lt_trans h1 h2
theorem listGo_rise : ∀ {l : List Dep} {a : ByteArray}, listGo (some a) l = true → ∀ x ∈ namesOf l, lessB a x = true := by
  intro l
  induction l with
  | nil => intro a _ x hx; cases hx
  | cons d l ih =>
    intro a h x hx
    simp only [listGo, Bool.and_eq_true, behind] at h
    rcases List.mem_cons.1 hx with rfl | hx
    · exact h.1.2.2.2
    · exact lessB_trans h.1.2.2.2 (ih h.2 x hx)
theorem listGo_nodup : ∀ {l : List Dep} {p : Option ByteArray}, listGo p l = true → (namesOf l).Nodup := by
  intro l
  induction l with
  | nil => intro p _; exact List.nodup_nil
  | cons d l ih =>
    intro p h
    simp only [listGo, Bool.and_eq_true] at h
    refine List.nodup_cons.2 ⟨fun hm => ?_, ih h.2⟩
    have := listGo_rise h.2 _ hm
    rw [lessB_irrefl] at this; cases this
theorem listB_nodup {l : List Dep} (h : listB l = true) : (namesOf l).Nodup := by
  simp only [listB, Bool.and_eq_true] at h
  exact listGo_nodup h.1

noncomputable def disjB (a b : List Dep) : Bool := @decide (∀ x ∈ namesOf a, x ∉ namesOf b) (Classical.propDecidable _)
theorem disjB_true {a b : List Dep} (h : ∀ x ∈ namesOf a, x ∉ namesOf b) : disjB a b = true := by unfold disjB; exact @decide_eq_true _ (Classical.propDecidable _) h
theorem disjB_false {a b : List Dep} (h : ¬ ∀ x ∈ namesOf a, x ∉ namesOf b) : disjB a b = false := by unfold disjB; exact @decide_eq_false _ (Classical.propDecidable _) h
theorem disjB_of {a b : List Dep} (h : disjB a b = true) : ∀ x ∈ namesOf a, x ∉ namesOf b := by
  by_cases e : ∀ x ∈ namesOf a, x ∉ namesOf b
  · exact e
  · rw [disjB_false e] at h; cases h
theorem apart3 {a b c : List Dep} (ha : listB a = true) (hb : listB b = true) (hc : listB c = true) : nodupB (allNames [a, b, c]) = (disjB a b && disjB a c && disjB b c) := by
  have e : allNames [a, b, c] = namesOf a ++ (namesOf b ++ namesOf c) := by simp [allNames]
  by_cases h1 : ∀ x ∈ namesOf a, x ∉ namesOf b
  · by_cases h2 : ∀ x ∈ namesOf a, x ∉ namesOf c
    · by_cases h3 : ∀ x ∈ namesOf b, x ∉ namesOf c
      · rw [disjB_true h1, disjB_true h2, disjB_true h3]
        refine nodupB_true ?_
        rw [e, List.nodup_append]
        refine ⟨listB_nodup ha, ?_, fun x hx y hy he => ?_⟩
        · rw [List.nodup_append]
          exact ⟨listB_nodup hb, listB_nodup hc, fun x hx y hy he => h3 x hx (he ▸ hy)⟩
        · subst he
          rcases List.mem_append.1 hy with hy | hy
          · exact h1 x hx hy
          · exact h2 x hx hy
      · rw [disjB_false h3, Bool.and_false]
        refine nodupB_false fun hn => h3 fun x hx hy => ?_
        rw [e, List.nodup_append] at hn
        exact (List.nodup_append.1 hn.2.1).2.2 x hx x hy rfl
    · rw [disjB_false h2, Bool.and_false, Bool.false_and]
      refine nodupB_false fun hn => h2 fun x hx hy => ?_
      rw [e, List.nodup_append] at hn
      exact hn.2.2 x hx x (List.mem_append.2 (.inr hy)) rfl
  · rw [disjB_false h1, Bool.false_and, Bool.false_and]
    refine nodupB_false fun hn => h1 fun x hx hy => ?_
    rw [e, List.nodup_append] at hn
    exact hn.2.2 x hx x (List.mem_append.2 (.inl hy)) rfl

/-- may a package be -/
noncomputable def packB (p : Pack) : Bool :=
  nameB p.name && (verB p.ver.major p.ver.minor p.ver.patch && (listB p.deps && (listB p.peers && (listB p.opts && (nodupB (allNames [p.deps, p.peers, p.opts]) && decide ((packText p).size ≤ 4096))))))
end Go.Proofs.YtanipbpphbkmcaaDoor
