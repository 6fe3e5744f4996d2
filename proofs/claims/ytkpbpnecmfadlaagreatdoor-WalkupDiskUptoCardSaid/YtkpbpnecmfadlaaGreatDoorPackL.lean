/-
  Packages in plain words: their texts, what may be; the two ways of asking that no name stands twice agree.
-/
import Derived.Test.YtkpbpnecmfadlaaGreatDoorApart
import Derived.Test.YtkpbpnecmfadlaaGreatDoorSame
import Derived.Test.YtkpbpnecmfadlaaGreatDoorSpanM
import Derived.Test.YtkpbpnecmfadlaaGreatDoorSpanR
import Derived.Test.YtkpbpnecmfadlaaGreatDoorBuilder
set_option autoImplicit false
set_option relaxedAutoImplicit false
set_option linter.unusedVariables false
set_option linter.unusedSimpArgs false
namespace Go.Proofs.YtkpbpnecmfadlaaGreatDoor
open Go

def nlB : ByteArray := ⟨#[10]⟩
def lineD (word : ByteArray) (d : Dep) : ByteArray := word ++ spaceB ++ d.name ++ spaceB ++ spansText d.range ++ nlB
def linesD (word : ByteArray) : List Dep → ByteArray
  | [] => ⟨#[]⟩
  | d :: l => lineD word d ++ linesD word l
def packW : ByteArray := ⟨#[112, 97, 99, 107, 97, 103, 101, 32]⟩
def needsW : ByteArray := ⟨#[110, 101, 101, 100, 115]⟩
def besideW : ByteArray := ⟨#[98, 101, 115, 105, 100, 101]⟩
def likesW : ByteArray := ⟨#[108, 105, 107, 101, 115]⟩
def packHead (p : Pack) : ByteArray := packW ++ p.name ++ spaceB ++ verText p.ver.major p.ver.minor p.ver.patch ++ nlB
def packText (p : Pack) : ByteArray := packHead p ++ linesD needsW p.deps ++ linesD besideW p.peers ++ linesD likesW p.opts

theorem linesD_append (word : ByteArray) (a b : List Dep) : linesD word (a ++ b) = linesD word a ++ linesD word b := by
  induction a with
  | nil => apply ByteArray.ext; simp [linesD, ByteArray.data_append]
  | cons d a ih => rw [List.cons_append, linesD, ih, linesD]; apply ByteArray.ext; simp [ByteArray.data_append]
theorem linesD_take (word : ByteArray) {l : List Dep} {k : Nat} (h : k < l.length) : linesD word (l.take (k + 1)) = linesD word (l.take k) ++ lineD word l[k] := by
  rw [List.take_succ_eq_append_getElem h, linesD_append]
  apply ByteArray.ext; simp [linesD, ByteArray.data_append]
theorem lineD_le {word : ByteArray} {d : Dep} (hw : word.size ≤ 10) (hd : d.name.size ≤ 16) : (lineD word d).size ≤ 2100 := by
  have := spansText_le d.range
  have z1 : spaceB.size = 1 := rfl
  have z2 : nlB.size = 1 := rfl
  unfold lineD
  simp only [ByteArray.size_append]
  omega
theorem linesD_le {word : ByteArray} {l : List Dep} (hw : word.size ≤ 10) (hd : ∀ d ∈ l, d.name.size ≤ 16) : (linesD word l).size ≤ 2100 * l.length := by
  induction l with
  | nil => exact Nat.le_refl _
  | cons d l ih =>
    have h1 := lineD_le hw (hd d (by simp))
    have h2 := ih (fun x hx => hd x (by simp [hx]))
    rw [linesD, ByteArray.size_append, List.length_cons]
    omega

theorem listGo_mem : ∀ {l : List Dep} {p : Option ByteArray}, listGo p l = true → ∀ d ∈ l, nameB d.name = true ∧ spansB d.range = true := by
  intro l
  induction l with
  | nil => intro p _ d hd; cases hd
  | cons x l ih =>
    intro p h d hd
    simp only [listGo, Bool.and_eq_true] at h
    rcases List.mem_cons.1 hd with rfl | hd
    · exact ⟨h.1.1, h.1.2.1⟩
    · exact ih h.2 d hd
theorem nameB_size {s : ByteArray} (h : nameB s = true) : s.size ≤ 16 := by
  rcases Nat.lt_or_ge 16 s.size with h' | h'
  · have : nameL s.data.toList = false := name_long (by rw [Array.length_toList]; exact h')
    unfold nameB at h; rw [this] at h; cases h
  · exact h'
theorem listB_small {l : List Dep} (h : listB l = true) : l.length ≤ 16 ∧ ∀ d ∈ l, d.name.size ≤ 16 := by
  simp only [listB, Bool.and_eq_true, decide_eq_true_eq] at h
  exact ⟨h.2, fun d hd => nameB_size (listGo_mem h.1 d hd).1⟩

theorem bl_lt : ∀ (x y : List UInt8), Op.bytesLess x y = decide (x < y) := by
  intro x
  induction x with
  | nil => intro y; cases y <;> simp [Op.bytesLess]
  | cons a x ih =>
    intro y
    cases y with
    | nil => simp [Op.bytesLess]
    | cons b y =>
      rw [Op.bytesLess, ih y, Bool.eq_iff_iff]
      simp [List.cons_lt_cons_iff]
theorem lessB_lt (a b : ByteArray) : lessB a b = decide (a.data.toList < b.data.toList) := by
  unfold lessB; rw [bl_lt, Go.ByteArray.toList_eq, Go.ByteArray.toList_eq]
theorem lessB_irrefl (a : ByteArray) : lessB a a = false := by
  rw [lessB_lt]; simp
theorem lessB_trans {a b c : ByteArray} (h1 : lessB a b = true) (h2 : lessB b c = true) : lessB a c = true := by
  rw [lessB_lt, decide_eq_true_eq] at *
  exact List.lt_trans h1 h2
theorem listGo_rise : ∀ {l : List Dep} {a : ByteArray}, listGo (some a) l = true → ∀ x ∈ namesOf l, lessB a x = true := by
  intro l
  induction l with
  | nil => intro a _ x hx; cases hx
  | cons d l ih =>
    intro a h x hx
    simp only [listGo, Bool.and_eq_true, behind] at h
    rcases List.mem_cons.1 hx with rfl | hx
    · exact h.1.2.2.2
    · exact lessB_trans h.1.2.2.2 (ih h.2 x hx)
theorem listGo_nodup : ∀ {l : List Dep} {p : Option ByteArray}, listGo p l = true → (namesOf l).Nodup := by
  intro l
  induction l with
  | nil => intro p _; exact List.nodup_nil
  | cons d l ih =>
    intro p h
    simp only [listGo, Bool.and_eq_true] at h
    refine List.nodup_cons.2 ⟨fun hm => ?_, ih h.2⟩
    have := listGo_rise h.2 _ hm
    rw [lessB_irrefl] at this; cases this
theorem listB_nodup {l : List Dep} (h : listB l = true) : (namesOf l).Nodup := by
  simp only [listB, Bool.and_eq_true] at h
  exact listGo_nodup h.1

noncomputable def disjB (a b : List Dep) : Bool := @decide (∀ x ∈ namesOf a, x ∉ namesOf b) (Classical.propDecidable _)
theorem disjB_true {a b : List Dep} (h : ∀ x ∈ namesOf a, x ∉ namesOf b) : disjB a b = true := by unfold disjB; exact @decide_eq_true _ (Classical.propDecidable _) h
theorem disjB_false {a b : List Dep} (h : ¬ ∀ x ∈ namesOf a, x ∉ namesOf b) : disjB a b = false := by unfold disjB; exact @decide_eq_false _ (Classical.propDecidable _) h
theorem disjB_of {a b : List Dep} (h : disjB a b = true) : ∀ x ∈ namesOf a, x ∉ namesOf b := by
  by_cases e : ∀ x ∈ namesOf a, x ∉ namesOf b
  · exact e
  · rw [disjB_false e] at h; cases h
theorem apart3 {a b c : List Dep} (ha : listB a = true) (hb : listB b = true) (hc : listB c = true) : nodupB (allNames [a, b, c]) = (disjB a b && disjB a c && disjB b c) := by
  have e : allNames [a, b, c] = namesOf a ++ (namesOf b ++ namesOf c) := by simp [allNames]
  by_cases h1 : ∀ x ∈ namesOf a, x ∉ namesOf b
  · by_cases h2 : ∀ x ∈ namesOf a, x ∉ namesOf c
    · by_cases h3 : ∀ x ∈ namesOf b, x ∉ namesOf c
      · rw [disjB_true h1, disjB_true h2, disjB_true h3]
        refine nodupB_true ?_
        rw [e, List.nodup_append]
        refine ⟨listB_nodup ha, ?_, fun x hx y hy he => ?_⟩
        · rw [List.nodup_append]
          exact ⟨listB_nodup hb, listB_nodup hc, fun x hx y hy he => h3 x hx (he ▸ hy)⟩
        · subst he
          rcases List.mem_append.1 hy with hy | hy
          · exact h1 x hx hy
          · exact h2 x hx hy
      · rw [disjB_false h3, Bool.and_false]
        refine nodupB_false fun hn => h3 fun x hx hy => ?_
        rw [e, List.nodup_append] at hn
        exact (List.nodup_append.1 hn.2.1).2.2 x hx x hy rfl
    · rw [disjB_false h2, Bool.and_false, Bool.false_and]
      refine nodupB_false fun hn => h2 fun x hx hy => ?_
      rw [e, List.nodup_append] at hn
      exact hn.2.2 x hx x (List.mem_append.2 (.inr hy)) rfl
  · rw [disjB_false h1, Bool.false_and, Bool.false_and]
    refine nodupB_false fun hn => h1 fun x hx hy => ?_
    rw [e, List.nodup_append] at hn
    exact hn.2.2 x hx x (List.mem_append.2 (.inl hy)) rfl

/-- may a package be -/
noncomputable def packB (p : Pack) : Bool :=
  nameB p.name && (verB p.ver.major p.ver.minor p.ver.patch && (listB p.deps && (listB p.peers && (listB p.opts && (nodupB (allNames [p.deps, p.peers, p.opts]) && decide ((packText p).size ≤ 4096))))))
end Go.Proofs.YtkpbpnecmfadlaaGreatDoor
/-
  The document's Apart, Lines and text of a package, walked.
-/
set_option autoImplicit false
set_option relaxedAutoImplicit false
set_option linter.unusedVariables false
set_option linter.unusedSimpArgs false
namespace Go.Proofs.YtkpbpnecmfadlaaGreatDoor
open Go.Rows Go.RowKit Go.Shelf Go.Sort

theorem names_at {l : List Dep} {k : Nat} (h : k < l.length) : l[k].name ∈ namesOf l := List.mem_map.2 ⟨l[k], List.getElem_mem h, rfl⟩
theorem names_take_in {l : List Dep} {k : Nat} {x : ByteArray} (h : x ∈ namesOf (l.take k)) : x ∈ namesOf l := by
  obtain ⟨d, hd, rfl⟩ := List.mem_map.1 h
  exact List.mem_map.2 ⟨d, List.mem_of_mem_take hd, rfl⟩

theorem packHead_le {p : Pack} (h : p.name.size ≤ 16) : (packHead p).size ≤ 100 := by
  have h1 := verText_le p.ver.major p.ver.minor p.ver.patch
  have z1 : spaceB.size = 1 := rfl
  have z2 : nlB.size = 1 := rfl
  have z3 : packW.size = 8 := rfl
  unfold packHead
  simp only [ByteArray.size_append]
  omega

end Go.Proofs.YtkpbpnecmfadlaaGreatDoor
/-
  The program's pack.lines (a Builder), walked.
-/
set_option autoImplicit false
set_option relaxedAutoImplicit false
set_option linter.unusedVariables false
set_option linter.unusedSimpArgs false
namespace Go.Proofs.YtkpbpnecmfadlaaGreatDoor
open Go.Rows Go.RowKit Go.Shelf Go.Sort

theorem strCells_append (a b : ByteArray) : Lib.strCells (a ++ b) = Lib.strCells a ++ Lib.strCells b := by
  simp [Lib.strCells, ByteArray.data_append]

set_option maxHeartbeats 1600000 in
set_option maxRecDepth 100000 in
theorem lines_any (word : ByteArray) (hword : word.size ≤ 10) (A : Option Addr) (n c : Nat) (l : List Dep) (w : World) (S : Nat → Prop) (B b : Nat) (bs : List Value)
    (h16 : l.length ≤ 16) (hsm : ∀ d ∈ l, d.name.size ≤ 16) (hT : ∀ W, Below B w W → Tab W) (hl : SlV rDep w S l (.slice A n c)) (hS : ∀ b, S b → b < B)
    (hB : IsB B b bs w) (hbs : bs.length ≤ 1000000) (hBw : B ≤ w.heap.size) :
    Calls Tryz.prog 88 #[.pointer (some ⟨b, 0, none⟩), .string word, .slice A n c] w fun e w' => e = .returned (.tuple #[]) ∧ IsB B b (bs ++ Lib.strCells (linesD word l)) w' ∧ Below B w w' := by
  have hnx := hl.n_eq
  have hn63 : n ≤ 16 := by omega
  have Hsm := Lib.hid hsm; clear hsm
  have HT := Lib.hid hT; clear hT
  have HS := Lib.hid hS; clear hS
  have HB := Lib.hid hB; clear hB
  have Hend : Hid (linesD word l = linesD word (l.take l.length)) := by unfold Hid; rw [List.take_length]
  have Hnx := Lib.hid hnx; clear hnx
  generalize hR : linesD word l = R at *
  clear hR
  go_enter Tryz.func88, Tryz.ntmps88
  go_wp2_with fail
  go_loopw [10] (fun i wr => ∃ (k : Nat), k ≤ n ∧ i = .int .i64 k ∧ Hid (IsB B b (bs ++ Lib.strCells (linesD word (l.take k))) wr) ∧ Below B w wr) (fun i _ => n - (intOf i).toNat)
  case atStart => exact ⟨0, Nat.zero_le _, rfl, by have := HB.out; simpa [Hid, linesD, Lib.strCells] using this, Below.refl _ _⟩
  case round =>
    obtain ⟨k, hk, rfl, hIB, hbel⟩ := hrel
    by_cases hlt : k < n
    · have hkx : k < l.length := by have := Hnx.out; omega
      obtain ⟨bb, o, cs, rfl, _, hb1, ⟨s0, rfl, hnm, hr0⟩, hcell⟩ := (hl.below hbel HS.out).elem (List.getElem?_eq_getElem hkx)
      obtain ⟨pA, pc, rfl, _, _⟩ := hr0.val
      have c0 := hcell 0 _ rfl
      have c1 := hcell 1 _ rfl
      simp only [rDep, Nat.add_zero] at c0 c1
      have Htk := Lib.hid (linesD_take word hkx)
      have hz0 : (linesD word (l.take k)).size ≤ 33600 := by
        have h1 := linesD_le (word := word) (l := l.take k) hword (fun d hd => Hsm.out d (List.mem_of_mem_take hd))
        have h2 : (l.take k).length ≤ 16 := by simp; omega
        omega
      have hz1 := Hsm.out l[k] (List.getElem_mem hkx)
      have hz2 := spansText_le l[k].range
      have hk0 : (0 : Int) ≤ (k : Int) := by omega
      have hkn : (k : Int) < (n : Int) := by omega
      have hBr : B ≤ wr.heap.size := Nat.le_trans hBw hbel.size
      have Ht : Hid (Tab wr) := HT.out _ hbel
      have Hc : Hid (∀ o : Obj, ∀ d os, Calls Tryz.prog 93 #[.slice pA l[k].range.length pc] (grow (redrawn (wr.alloc o) d) os) fun e w'' => e = .returned (.string (spansText l[k].range)) ∧ ∃ p : Regrown, w'' = grow (redrawn (wr.alloc o) p.d) p.os) :=
        fun o => qcall (w := wr.alloc o) (fun W hW => spanPrint_any pA _ pc l[k].range W _ (tab_below (tab_below Ht.out (bal (Below.refl _ _) o)) hW) ((hr0.alloc o).belowSize hW))
      have Hln : Hid (lineD word l[k] = word ++ spaceB ++ l[k].name ++ spaceB ++ spansText l[k].range ++ nlB) := rfl
      have Hlen : Hid ((bs ++ Lib.strCells (linesD word (l.take k))).length ≤ 1033600) := by unfold Hid; rw [List.length_append, Lib.strCells_length]; omega
      clear hcell hr0 hz0
      generalize lineD word l[k] = line at *
      generalize l[k].name = x at *
      generalize spansText l[k].range = t at *
      generalize l[k].range.length = rl at *
      have z1 : spaceB.size = 1 := rfl
      have z2 : nlB.size = 1 := rfl
      have A1 : ∀ W : World, (Op.stringOp .add word ⟨#[32]⟩).run Tryz.prog W = .ok (.string (word ++ spaceB)) W := fun W => run_string_add_sum W _ spaceB (by omega)
      have A2 : ∀ W : World, (Op.stringOp .add (word ++ spaceB) x).run Tryz.prog W = .ok (.string (word ++ spaceB ++ x)) W := fun W => run_string_add_sum W _ _ (by simp only [ByteArray.size_append]; omega)
      have A3 : ∀ W : World, (Op.stringOp .add (word ++ spaceB ++ x) ⟨#[32]⟩).run Tryz.prog W = .ok (.string (word ++ spaceB ++ x ++ spaceB)) W := fun W => run_string_add_sum W _ spaceB (by simp only [ByteArray.size_append]; omega)
      have A4 : ∀ W : World, (Op.stringOp .add (word ++ spaceB ++ x ++ spaceB) t).run Tryz.prog W = .ok (.string (word ++ spaceB ++ x ++ spaceB ++ t)) W := fun W => run_string_add_sum W _ _ (by simp only [ByteArray.size_append]; omega)
      have A5 : ∀ W : World, (Op.stringOp .add (word ++ spaceB ++ x ++ spaceB ++ t) ⟨#[10]⟩).run Tryz.prog W = .ok (.string line) W := fun W => by rw [Hln.out]; exact run_string_add_sum W _ nlB (by simp only [ByteArray.size_append]; omega)
      have Hlz : Hid (line.size ≤ 2100) := by unfold Hid; rw [Hln.out]; simp only [ByteArray.size_append]; omega
      clear z1 z2 hz1 hz2 Hln
      go_wp2_with fail
      have a0 : (wr.alloc (.cells #[.string x, .slice pA rl pc] 124)).cell? ⟨wr.heap.size, 0, none⟩ = some (.string x) := by simp [go_sem]
      have a1 : (wr.alloc (.cells #[.string x, .slice pA rl pc] 124)).cell? ⟨wr.heap.size, 1, none⟩ = some (.slice pA rl pc) := by simp [go_sem]
      have r_a0 := cell_regrown a0
      have r_a1 := cell_regrown a1
      refine wp_region_qb_tail 12 (by kernel_rfl) (by kernel_rfl) ?_
      simp only [List.take_succ_cons, List.take_zero, List.drop_succ_cons, List.drop_zero]
      repeat (go_big_quiet_step (first | (with_reducible exact Hc.out _ _ _)))
      refine wpQuiet_nil ?_
      intro w1 B1
      have hbr1 : Below wr.heap.size wr w1 := bnew B1
      have HB1 : Hid (IsB B b (bs ++ Lib.strCells (linesD word (l.take k))) w1) := hIB.out.keep hbr1
      have hbel1 : Below B w w1 := hbel.trans (hbr1.mono hBr)
      have Hbel1 := Lib.hid hbel1; clear hbel1
      have hBw1 : B ≤ w1.heap.size := Nat.le_trans hBr hbr1.size
      have HBw1 := Lib.hid hBw1; clear hBw1
      have Hlen1 : Hid ((bs ++ Lib.strCells (linesD word (l.take k))).length + line.size ≤ 140737488355328) := by unfold Hid; have := Hlen.out; have := Hlz.out; omega
      clear A1 A2 A3 A4 A5 hbr1 B1 Hc r_a0 r_a1 a0 a1 c0 c1
      go_wp2_with fail
      refine (writeString_any _ _ _ line _ HB1.out Hlen1.out HBw1.out).mono ?_
      rintro e w2 ⟨rfl, hB2, hb2⟩
      have HB2 : Hid (IsB B b (bs ++ Lib.strCells (linesD word (l.take (k + 1)))) w2) := by
        unfold Hid; rw [Htk.out, strCells_append, ← List.append_assoc]; exact .inr hB2
      have Hbel2 := Lib.hid (Hbel1.out.trans hb2); clear hb2 hB2
      go_wp2_with fail
      go_roundw
      case rel => exact ⟨k + 1, by omega, by go_num, HB2, Hbel2.out⟩
      case measure => simp [intOf]; omega
    · have He : Hid (R = linesD word (l.take k)) := by
        unfold Hid; rw [Hend.out, show k = l.length from by have := Hnx.out; omega]
      go_wp2_with fail
      go_end0
      refine ⟨rfl, ?_, hbel⟩
      rw [He.out]; exact hIB.out

end Go.Proofs.YtkpbpnecmfadlaaGreatDoor
