/-
  Packages in plain words: their texts, what may be; the two ways of asking that no name stands twice agree.
-/
import Derived.Test.YtminjjdnmpaaoaaGreatDoorPp10
import Derived.Test.YtminjjdnmpaaoaaGreatDoorPp06
import Derived.Test.YtminjjdnmpaaoaaGreatDoorPp09
import Derived.Test.YtminjjdnmpaaoaaGreatDoorPp12
import Derived.Test.YtminjjdnmpaaoaaGreatDoorPp11
set_option autoImplicit false
set_option relaxedAutoImplicit false
set_option linter.unusedVariables false
set_option linter.unusedSimpArgs false
namespace Go.Proofs.YtminjjdnmpaaoaaGreatDoor
open Go

def nlB : ByteArray := ⟨#[10]⟩
def lineD (word : ByteArray) (d : Dep) : ByteArray := word ++ spaceB ++ d.name ++ spaceB ++ spansText d.range ++ nlB
def linesD (word : ByteArray) : List Dep → ByteArray
  | [] => ⟨#[]⟩
  | d :: l => lineD word d ++ linesD word l
def packW : ByteArray := ⟨#[112, 97, 99, 107, 97, 103, 101, 32]⟩
def needsW : ByteArray := ⟨#[110, 101, 101, 100, 115]⟩
def besideW : ByteArray := ⟨#[98, 101, 115, 105, 100, 101]⟩
def likesW : ByteArray := ⟨#[108, 105, 107, 101, 115]⟩
def packHead (p : Pack) : ByteArray := packW ++ p.name ++ spaceB ++ verText p.ver.major p.ver.minor p.ver.patch ++ nlB
def packText (p : Pack) : ByteArray := packHead p ++ linesD needsW p.deps ++ linesD besideW p.peers ++ linesD likesW p.opts

theorem linesD_append (word : ByteArray) (a b : List Dep) : linesD word (a ++ b) = linesD word a ++ linesD word b := by
  induction a with
  | nil => apply ByteArray.ext; simp [linesD, ByteArray.data_append]
  | cons d a ih => rw [List.cons_append, linesD, ih, linesD]; apply ByteArray.ext; simp [ByteArray.data_append]
theorem linesD_take (word : ByteArray) {l : List Dep} {k : Nat} (h : k < l.length) : linesD word (l.take (k + 1)) = linesD word (l.take k) ++ lineD word l[k] := by
  rw [List.take_succ_eq_append_getElem h, linesD_append]
  apply ByteArray.ext; simp [linesD, ByteArray.data_append]
theorem lineD_le {word : ByteArray} {d : Dep} (hw : word.size ≤ 10) (hd : d.name.size ≤ 16) : (lineD word d).size ≤ 2100 := by
  have := spansText_le d.range
  have z1 : spaceB.size = 1 := rfl
  have z2 : nlB.size = 1 := rfl
  unfold lineD
  simp only [ByteArray.size_append]
  omega
theorem linesD_le {word : ByteArray} {l : List Dep} (hw : word.size ≤ 10) (hd : ∀ d ∈ l, d.name.size ≤ 16) : (linesD word l).size ≤ 2100 * l.length := by
  induction l with
  | nil => exact Nat.le_refl _
  | cons d l ih =>
    have h1 := lineD_le hw (hd d (by simp))
    have h2 := ih (fun x hx => hd x (by simp [hx]))
    rw [linesD, ByteArray.size_append, List.length_cons]
    omega

theorem listGo_mem : ∀ {l : List Dep} {p : Option ByteArray}, listGo p l = true → ∀ d ∈ l, nameB d.name = true ∧ spansB d.range = true := by
  intro l
  induction l with
  | nil => intro p _ d hd; cases hd
  | cons x l ih =>
    intro p h d hd
    simp only [listGo, Bool.and_eq_true] at h
    rcases List.mem_cons.1 hd with rfl | hd
    · exact ⟨h.1.1, h.1.2.1⟩
    · exact ih h.2 d hd
theorem nameB_size {s : ByteArray} (h : nameB s = true) : s.size ≤ 16 := by
  rcases Nat.lt_or_ge 16 s.size with h' | h'
  · have : nameL s.data.toList = false := name_long (by rw [Array.length_toList]; exact h')
    unfold nameB at h; rw [this] at h; cases h
  · exact h'
theorem listB_small {l : List Dep} (h : listB l = true) : l.length ≤ 16 ∧ ∀ d ∈ l, d.name.size ≤ 16 := by
  simp only [listB, Bool.and_eq_true, decide_eq_true_eq] at h
  exact ⟨h.2, fun d hd => nameB_size (listGo_mem h.1 d hd).1⟩

theorem bl_lt : ∀ (x y : List UInt8), Op.bytesLess x y = decide (x < y) := by
  intro x
  induction x with
  | nil => intro y; cases y <;> simp [Op.bytesLess]
  | cons a x ih =>
    intro y
    cases y with
    | nil => simp [Op.bytesLess]
    | cons b y =>
      rw [Op.bytesLess, ih y, Bool.eq_iff_iff]
      simp [List.cons_lt_cons_iff]
theorem lessB_lt (a b : ByteArray) : lessB a b = decide (a.data.toList < b.data.toList) := by
  unfold lessB; rw [bl_lt, Go.ByteArray.toList_eq, Go.ByteArray.toList_eq]
theorem lessB_irrefl (a : ByteArray) : lessB a a = false := by
  rw [lessB_lt]; simp
theorem lessB_trans {a b c : ByteArray} (h1 : lessB a b = true) (h2 : lessB b c = true) : lessB a c = true := by
  rw [lessB_lt, decide_eq_true_eq] at *
  exact List.lt_trans h1 h2
theorem listGo_rise : ∀ {l : List Dep} {a : ByteArray}, listGo (some a) l = true → ∀ x ∈ namesOf l, lessB a x = true := by
  intro l
  induction l with
  | nil => intro a _ x hx; cases hx
  | cons d l ih =>
    intro a h x hx
    simp only [listGo, Bool.and_eq_true, behind] at h
    rcases List.mem_cons.1 hx with rfl | hx
    · exact h.1.2.2.2
    · exact lessB_trans h.1.2.2.2 (ih h.2 x hx)
theorem listGo_nodup : ∀ {l : List Dep} {p : Option ByteArray}, listGo p l = true → (namesOf l).Nodup := by
  intro l
  induction l with
  | nil => intro p _; exact List.nodup_nil
  | cons d l ih =>
    intro p h
    simp only [listGo, Bool.and_eq_true] at h
    refine List.nodup_cons.2 ⟨fun hm => ?_, ih h.2⟩
    have := listGo_rise h.2 _ hm
    rw [lessB_irrefl] at this; cases this
theorem listB_nodup {l : List Dep} (h : listB l = true) : (namesOf l).Nodup := by
  simp only [listB, Bool.and_eq_true] at h
  exact listGo_nodup h.1

noncomputable def disjB (a b : List Dep) : Bool := @decide (∀ x ∈ namesOf a, x ∉ namesOf b) (Classical.propDecidable _)
theorem disjB_true {a b : List Dep} (h : ∀ x ∈ namesOf a, x ∉ namesOf b) : disjB a b = true := by unfold disjB; exact @decide_eq_true _ (Classical.propDecidable _) h
theorem disjB_false {a b : List Dep} (h : ¬ ∀ x ∈ namesOf a, x ∉ namesOf b) : disjB a b = false := by unfold disjB; exact @decide_eq_false _ (Classical.propDecidable _) h
theorem apart3 {a b c : List Dep} (ha : listB a = true) (hb : listB b = true) (hc : listB c = true) : nodupB (allNames [a, b, c]) = (disjB a b && disjB a c && disjB b c) := by
  have e : allNames [a, b, c] = namesOf a ++ (namesOf b ++ namesOf c) := by simp [allNames]
  by_cases h1 : ∀ x ∈ namesOf a, x ∉ namesOf b
  · by_cases h2 : ∀ x ∈ namesOf a, x ∉ namesOf c
    · by_cases h3 : ∀ x ∈ namesOf b, x ∉ namesOf c
      · rw [disjB_true h1, disjB_true h2, disjB_true h3]
        refine nodupB_true ?_
        rw [e, List.nodup_append]
        refine ⟨listB_nodup ha, ?_, fun x hx y hy he => ?_⟩
        · rw [List.nodup_append]
          exact ⟨listB_nodup hb, listB_nodup hc, fun x hx y hy he => h3 x hx (he ▸ hy)⟩
        · subst he
          rcases List.mem_append.1 hy with hy | hy
          · exact h1 x hx hy
          · exact h2 x hx hy
      · rw [disjB_false h3, Bool.and_false]
        refine nodupB_false fun hn => h3 fun x hx hy => ?_
        rw [e, List.nodup_append] at hn
        exact (List.nodup_append.1 hn.2.1).2.2 x hx x hy rfl
    · rw [disjB_false h2, Bool.and_false, Bool.false_and]
      refine nodupB_false fun hn => h2 fun x hx hy => ?_
      rw [e, List.nodup_append] at hn
      exact hn.2.2 x hx x (List.mem_append.2 (.inr hy)) rfl
  · rw [disjB_false h1, Bool.false_and, Bool.false_and]
    refine nodupB_false fun hn => h1 fun x hx hy => ?_
    rw [e, List.nodup_append] at hn
    exact hn.2.2 x hx x (List.mem_append.2 (.inl hy)) rfl

/-- may a package be -/
noncomputable def packB (p : Pack) : Bool :=
  nameB p.name && (verB p.ver.major p.ver.minor p.ver.patch && (listB p.deps && (listB p.peers && (listB p.opts && (nodupB (allNames [p.deps, p.peers, p.opts]) && decide ((packText p).size ≤ 4096))))))
end Go.Proofs.YtminjjdnmpaaoaaGreatDoor
/-
  The document's Apart, Lines and text of a package, walked.
-/
set_option autoImplicit false
set_option relaxedAutoImplicit false
set_option linter.unusedVariables false
set_option linter.unusedSimpArgs false
namespace Go.Proofs.YtminjjdnmpaaoaaGreatDoor
open Go.Rows Go.RowKit Go.Shelf Go.Sort

theorem names_at {l : List Dep} {k : Nat} (h : k < l.length) : l[k].name ∈ namesOf l := List.mem_map.2 ⟨l[k], List.getElem_mem h, rfl⟩
set_option maxHeartbeats 1600000 in
set_option maxRecDepth 100000 in
theorem refApart_any (A B : Option Addr) (n m c d : Nat) (xs ys : List Dep) (w : World) (S T : Nat → Prop) (hx : SlV rDep w S xs (.slice A n c)) (hy : SlV rDep w T ys (.slice B m d)) :
    Calls Tryz.prog 106 #[.slice A n c, .slice B m d] w fun e w' => e = .returned (.bool (disjB xs ys)) ∧ Below w.heap.size w w' := by
  have hnx := hx.n_eq
  have hny := hy.n_eq
  have hcx := hx.cap_le
  have hcy := hy.cap_le
  unfold maxLen at hcx hcy
  have hn63 : n ≤ 9223372036854775807 := by omega
  have hm63 : m ≤ 9223372036854775807 := by omega
  have hx' := hx.more (S' := fun b => b < w.heap.size) fun b _ h => h
  have hy' := hy.more (S' := fun b => b < w.heap.size) fun b _ h => h
  have Hpos : Hid ((∀ x ∈ namesOf xs, x ∉ namesOf ys) → disjB xs ys = true) := disjB_true
  have Hneg : Hid ((¬ ∀ x ∈ namesOf xs, x ∉ namesOf ys) → disjB xs ys = false) := disjB_false
  have Hnx := Lib.hid hnx; clear hnx
  have Hny := Lib.hid hny; clear hny
  clear hcx hcy hx hy
  generalize disjB xs ys = r at *
  go_enter Tryz.func106, Tryz.ntmps106
  go_wp2_with fail
  go_loopw [5] (fun i wr => ∃ k : Nat, k ≤ n ∧ i = .int .i64 k ∧ Hid (∀ x ∈ namesOf (xs.take k), x ∉ namesOf ys) ∧ Below w.heap.size w wr) (fun i _ => n - (intOf i).toNat)
  case atStart => exact ⟨0, Nat.zero_le _, rfl, by simp [Hid, namesOf], Below.refl _ _⟩
  case round =>
    obtain ⟨k, hk, rfl, hdis, hbel⟩ := hrel
    by_cases hlt : k < n
    · have hkx : k < xs.length := by have := Hnx.out; omega
      have Htk := Lib.hid (namesOf_take hkx)
      have hmx := Lib.hid (names_at hkx)
      have hk0 : (0 : Int) ≤ (k : Int) := by omega
      have hkn : (k : Int) < (n : Int) := by omega
      have Hxw : Hid (∀ W, Below w.heap.size w W → SlV rDep W (fun b => b < w.heap.size) xs (.slice A n c)) := fun W hW => hx'.below hW (fun b h => h)
      obtain ⟨wo, rfl⟩ : ∃ wo : World, wo = wr := ⟨_, rfl⟩
      go_wp2_with fail
      go_loopw [6] (fun j wq => ∃ q : Nat, q ≤ m ∧ j = .int .i64 q ∧ Hid (xs[k].name ∉ namesOf (ys.take q)) ∧ Below w.heap.size w wq) (fun j _ => m - (intOf j).toNat)
      case atStart => exact ⟨0, Nat.zero_le _, rfl, by simp [Hid, namesOf], hbel⟩
      case round =>
        obtain ⟨q, hq, rfl, hnot, hbelq⟩ := hrel
        by_cases hlq : q < m
        · have hqy : q < ys.length := by have := Hny.out; omega
          obtain ⟨b, o, cs, rfl, _, hb1, ⟨s0, rfl, _, hr0⟩, hcell⟩ := (Hxw.out _ hbelq).elem (List.getElem?_eq_getElem hkx)
          obtain ⟨b', o', cs', rfl, _, hb2, ⟨s1, rfl, _, hr1⟩, hcell'⟩ := (hy'.below hbelq (fun b h => h)).elem (List.getElem?_eq_getElem hqy)
          have c0 := hcell 0 _ rfl
          have d0 := hcell' 0 _ rfl
          simp only [rDep, Nat.add_zero] at c0 d0
          have Htq := Lib.hid (namesOf_take hqy)
          have hmy := Lib.hid (names_at hqy)
          have hq0 : (0 : Int) ≤ (q : Int) := by omega
          have hqm : (q : Int) < (m : Int) := by omega
          clear hcell hcell' hr0 hr1
          generalize xs[k].name = x at *
          generalize ys[q].name = y at *
          have r_c0 := cell_regrown c0
          have r_d0 := cell_regrown d0
          by_cases he : x = y
          · have hb := beq_true he
            have He : Hid (r = false) := Hneg.out fun h => h x hmx.out (he ▸ hmy.out)
            clear he
            go_wp2_with fail
            refine wp_region_qb (by kernel_rfl) (by kernel_rfl) ?_
            repeat (go_big_quiet_step (first | fail))
            refine wpQuiet_nil ?_
            intro w1 B1
            go_wp2_with fail
            go_ret
            exact ⟨ret_bool He.out.symm, bot hbelq B1⟩
          · have hb := beq_false he
            have hn2 : Hid (x ∉ namesOf (ys.take (q + 1))) := by
              unfold Hid; rw [Htq.out]; intro h
              rcases List.mem_append.1 h with h | h
              · exact hnot.out h
              · simp at h; exact he h
            clear he
            go_wp2_with fail
            refine wp_region_qb (by kernel_rfl) (by kernel_rfl) ?_
            repeat (go_big_quiet_step (first | fail))
            refine wpQuiet_nil ?_
            intro w1 B1
            go_wp2_with fail
            go_roundw
            case rel => exact ⟨q + 1, by omega, by go_num, hn2, bot hbelq B1⟩
            case measure => simp [intOf]; omega
        · have hqm : q = m := by omega
          have hd2 : Hid (∀ x ∈ namesOf (xs.take (k + 1)), x ∉ namesOf ys) := by
            unfold Hid; rw [Htk.out]; intro z hz
            rcases List.mem_append.1 hz with hz | hz
            · exact hdis.out z hz
            · simp at hz; subst hz
              have := hnot.out
              rw [hqm] at this
              rwa [show m = ys.length from Hny.out, List.take_length] at this
          go_wp2_with fail
          go_roundw
          case rel => exact ⟨k + 1, by omega, by go_num, hd2, hbelq⟩
          case measure => simp [intOf]; omega
    · have hkn : k = xs.length := by have := Hnx.out; omega
      have He : Hid (r = true) := Hpos.out (by have := hdis.out; rwa [hkn, List.take_length] at this)
      clear hkn
      go_wp2_with fail
      go_ret
      exact ⟨ret_bool He.out.symm, hbel⟩

set_option maxHeartbeats 1600000 in
set_option maxRecDepth 100000 in
theorem refLines_any (word : ByteArray) (hword : word.size ≤ 10) (A : Option Addr) (n c : Nat) (l : List Dep) (w : World) (S : Nat → Prop) (h16 : l.length ≤ 16) (hsm : ∀ d ∈ l, d.name.size ≤ 16) (hl : SlV rDep w S l (.slice A n c)) :
    Calls Tryz.prog 142 #[.string word, .slice A n c] w fun e w' => e = .returned (.string (linesD word l)) ∧ Below w.heap.size w w' := by
  have hnx := hl.n_eq
  have hn63 : n ≤ 16 := by omega
  have hl' := hl.more (S' := fun b => b < w.heap.size) fun b _ h => h
  have Hsm := Lib.hid hsm; clear hsm
  have Hend : Hid (linesD word l = linesD word (l.take l.length)) := by unfold Hid; rw [List.take_length]
  have Hnx := Lib.hid hnx; clear hnx
  clear hl
  generalize hR : linesD word l = R at *
  clear hR
  go_enter Tryz.func142, Tryz.ntmps142
  go_wp2_with fail
  go_loopw [5, 6] (fun t i wr => ∃ (k : Nat) (acc : ByteArray), k ≤ n ∧ t = .string acc ∧ i = .int .i64 k ∧ Hid (acc = linesD word (l.take k)) ∧ Below w.heap.size w wr) (fun _ i _ => n - (intOf i).toNat)
  case atStart => exact ⟨0, ⟨#[]⟩, Nat.zero_le _, rfl, rfl, rfl, Below.refl _ _⟩
  case round =>
    obtain ⟨k, acc, hk, rfl, rfl, hacc, hbel⟩ := hrel
    by_cases hlt : k < n
    · have hkx : k < l.length := by have := Hnx.out; omega
      obtain ⟨b, o, cs, rfl, _, hb1, ⟨s0, rfl, _, hr0⟩, hcell⟩ := (hl'.below hbel (fun b h => h)).elem (List.getElem?_eq_getElem hkx)
      obtain ⟨pA, pc, rfl, _, _⟩ := hr0.val
      have c0 := hcell 0 _ rfl
      have c1 := hcell 1 _ rfl
      simp only [rDep, Nat.add_zero] at c0 c1
      have Htk := Lib.hid (linesD_take word hkx)
      have hz0 : acc.size ≤ 33600 := by
        have h1 := linesD_le (word := word) (l := l.take k) hword (fun d hd => Hsm.out d (List.mem_of_mem_take hd))
        have h2 : (l.take k).length ≤ 16 := by simp; omega
        rw [hacc.out]; omega
      have hz1 := Hsm.out l[k] (List.getElem_mem hkx)
      have hz2 := spansText_le l[k].range
      have hk0 : (0 : Int) ≤ (k : Int) := by omega
      have hkn : (k : Int) < (n : Int) := by omega
      have Hc := Lib.hid (qcall (w := wr) (fun W hW => refSpanPrint_any pA _ pc l[k].range W _ (hr0.belowSize hW)))
      have Hln : Hid (lineD word l[k] = word ++ spaceB ++ l[k].name ++ spaceB ++ spansText l[k].range ++ nlB) := rfl
      clear hcell hr0
      generalize lineD word l[k] = line at *
      generalize l[k].name = x at *
      generalize spansText l[k].range = t at *
      generalize l[k].range.length = rl at *
      have z1 : spaceB.size = 1 := rfl
      have z2 : nlB.size = 1 := rfl
      have A1 : ∀ W : World, (Op.stringOp .add acc word).run Tryz.prog W = .ok (.string (acc ++ word)) W := fun W => run_string_add_sum W _ _ (by omega)
      have A2 : ∀ W : World, (Op.stringOp .add (acc ++ word) ⟨#[32]⟩).run Tryz.prog W = .ok (.string (acc ++ word ++ spaceB)) W := fun W => run_string_add_sum W _ spaceB (by simp only [ByteArray.size_append]; omega)
      have A3 : ∀ W : World, (Op.stringOp .add (acc ++ word ++ spaceB) x).run Tryz.prog W = .ok (.string (acc ++ word ++ spaceB ++ x)) W := fun W => run_string_add_sum W _ _ (by simp only [ByteArray.size_append]; omega)
      have A4 : ∀ W : World, (Op.stringOp .add (acc ++ word ++ spaceB ++ x) ⟨#[32]⟩).run Tryz.prog W = .ok (.string (acc ++ word ++ spaceB ++ x ++ spaceB)) W := fun W => run_string_add_sum W _ spaceB (by simp only [ByteArray.size_append]; omega)
      have A5 : ∀ W : World, (Op.stringOp .add (acc ++ word ++ spaceB ++ x ++ spaceB) t).run Tryz.prog W = .ok (.string (acc ++ word ++ spaceB ++ x ++ spaceB ++ t)) W := fun W => run_string_add_sum W _ _ (by simp only [ByteArray.size_append]; omega)
      have A6 : ∀ W : World, (Op.stringOp .add (acc ++ word ++ spaceB ++ x ++ spaceB ++ t) ⟨#[10]⟩).run Tryz.prog W = .ok (.string (acc ++ word ++ spaceB ++ x ++ spaceB ++ t ++ nlB)) W := fun W => run_string_add_sum W _ nlB (by simp only [ByteArray.size_append]; omega)
      have Hnew : Hid ((acc ++ word ++ spaceB ++ x ++ spaceB ++ t ++ nlB : ByteArray) = linesD word (l.take (k + 1))) := by
        unfold Hid; rw [Htk.out, Hln.out, hacc.out]
        apply ByteArray.ext; simp [ByteArray.data_append]
      clear z1 z2 hz0 hz1 hz2 Hln Htk hacc
      have r_c0 := cell_regrown c0
      have r_c1 := cell_regrown c1
      go_wp2_with fail
      refine wp_region_qb (by kernel_rfl) (by kernel_rfl) ?_
      repeat (go_big_quiet_step (first | (with_reducible exact Hc.out _ _)))
      refine wpQuiet_nil ?_
      intro w1 B1
      clear A1 A2 A3 A4 A5 A6
      generalize (acc ++ word ++ spaceB ++ x ++ spaceB ++ t ++ nlB : ByteArray) = acc' at *
      go_wp2_with fail
      go_roundw
      case rel => exact ⟨k + 1, acc', by omega, rfl, by go_num, Hnew, bot hbel B1⟩
      case measure => simp [intOf]; omega
    · have He : Hid (R = acc) := by
        unfold Hid; rw [Hend.out, hacc.out, show k = l.length from by have := Hnx.out; omega]
      clear hacc
      go_wp2_with fail
      go_ret
      exact ⟨ret_str He.out.symm, hbel⟩

theorem packHead_le {p : Pack} (h : p.name.size ≤ 16) : (packHead p).size ≤ 100 := by
  have h1 := verText_le p.ver.major p.ver.minor p.ver.patch
  have z1 : spaceB.size = 1 := rfl
  have z2 : nlB.size = 1 := rfl
  have z3 : packW.size = 8 := rfl
  unfold packHead
  simp only [ByteArray.size_append]
  omega

set_option maxHeartbeats 1600000 in
set_option maxRecDepth 100000 in
theorem refPackText_any (p : Pack) (v : Value) (w : World) (S : Nat → Prop) (hnm : p.name.size ≤ 16) (hd : listB p.deps = true) (hp : listB p.peers = true) (ho : listB p.opts = true) (hv : PackV w S p v) :
    Calls Tryz.prog 107 #[v] w fun e w' => e = .returned (.string (packText p)) ∧ Below w.heap.size w w' := by
  obtain ⟨A1, n1, c1, A2, n2, c2, A3, n3, c3, rfl, _, h1, h2, h3⟩ := hv
  obtain ⟨d1, d2⟩ := listB_small hd
  obtain ⟨p1, p2⟩ := listB_small hp
  obtain ⟨o1, o2⟩ := listB_small ho
  have zd := linesD_le (word := needsW) (by decide) d2
  have zp := linesD_le (word := besideW) (by decide) p2
  have zo := linesD_le (word := likesW) (by decide) o2
  have zh := packHead_le hnm
  have zv := verText_le p.ver.major p.ver.minor p.ver.patch
  have Hc0 : Hid (∀ o : Obj, ∀ d os, Calls Tryz.prog 141 #[.agg #[.int .i64 p.ver.major, .int .i64 p.ver.minor, .int .i64 p.ver.patch]] (grow (redrawn (w.alloc o) d) os) fun e w'' => e = .returned (.string (verText p.ver.major p.ver.minor p.ver.patch)) ∧ ∃ p : Regrown, w'' = grow (redrawn (w.alloc o) p.d) p.os) :=
    fun o => qcall (w := w.alloc o) (fun W hW => refVerPrint_any _ _ _ W)
  have Hc1 : Hid (∀ o : Obj, ∀ d os, Calls Tryz.prog 142 #[.string ⟨#[110, 101, 101, 100, 115]⟩, .slice A1 n1 c1] (grow (redrawn (w.alloc o) d) os) fun e w'' => e = .returned (.string (linesD needsW p.deps)) ∧ ∃ p : Regrown, w'' = grow (redrawn (w.alloc o) p.d) p.os) :=
    fun o => qcall (w := w.alloc o) (fun W hW => refLines_any needsW (by decide) A1 n1 c1 p.deps W S d1 d2 ((h1.alloc o).belowSize hW))
  have Hc2 : Hid (∀ o : Obj, ∀ d os, Calls Tryz.prog 142 #[.string ⟨#[98, 101, 115, 105, 100, 101]⟩, .slice A2 n2 c2] (grow (redrawn (w.alloc o) d) os) fun e w'' => e = .returned (.string (linesD besideW p.peers)) ∧ ∃ p : Regrown, w'' = grow (redrawn (w.alloc o) p.d) p.os) :=
    fun o => qcall (w := w.alloc o) (fun W hW => refLines_any besideW (by decide) A2 n2 c2 p.peers W S p1 p2 ((h2.alloc o).belowSize hW))
  have Hc3 : Hid (∀ o : Obj, ∀ d os, Calls Tryz.prog 142 #[.string ⟨#[108, 105, 107, 101, 115]⟩, .slice A3 n3 c3] (grow (redrawn (w.alloc o) d) os) fun e w'' => e = .returned (.string (linesD likesW p.opts)) ∧ ∃ p : Regrown, w'' = grow (redrawn (w.alloc o) p.d) p.os) :=
    fun o => qcall (w := w.alloc o) (fun W hW => refLines_any likesW (by decide) A3 n3 c3 p.opts W S o1 o2 ((h3.alloc o).belowSize hW))
  have Hph : Hid (packHead p = packW ++ p.name ++ spaceB ++ verText p.ver.major p.ver.minor p.ver.patch ++ nlB) := rfl
  have Hpt : Hid (packText p = packHead p ++ linesD needsW p.deps ++ linesD besideW p.peers ++ linesD likesW p.opts) := rfl
  clear h1 h2 h3 d2 p2 o2 hd hp ho
  generalize packText p = R at *
  generalize packHead p = ph at *
  generalize linesD needsW p.deps = t1 at *
  generalize linesD besideW p.peers = t2 at *
  generalize linesD likesW p.opts = t3 at *
  generalize verText p.ver.major p.ver.minor p.ver.patch = tv at *
  generalize p.ver.major = x1 at *
  generalize p.ver.minor = x2 at *
  generalize p.ver.patch = x3 at *
  generalize p.name = x at *
  generalize p.deps.length = l1 at *
  generalize p.peers.length = l2 at *
  generalize p.opts.length = l3 at *
  have z1 : spaceB.size = 1 := rfl
  have z2 : nlB.size = 1 := rfl
  have z3 : packW.size = 8 := rfl
  have E1 : ∀ W : World, (Op.stringOp .add ⟨#[112, 97, 99, 107, 97, 103, 101, 32]⟩ x).run Tryz.prog W = .ok (.string (packW ++ x)) W := fun W => run_string_add_sum W packW x (by omega)
  have E2 : ∀ W : World, (Op.stringOp .add (packW ++ x) ⟨#[32]⟩).run Tryz.prog W = .ok (.string (packW ++ x ++ spaceB)) W := fun W => run_string_add_sum W _ spaceB (by simp only [ByteArray.size_append]; omega)
  have E3 : ∀ W : World, (Op.stringOp .add (packW ++ x ++ spaceB) tv).run Tryz.prog W = .ok (.string (packW ++ x ++ spaceB ++ tv)) W := fun W => run_string_add_sum W _ _ (by simp only [ByteArray.size_append]; omega)
  have E4 : ∀ W : World, (Op.stringOp .add (packW ++ x ++ spaceB ++ tv) ⟨#[10]⟩).run Tryz.prog W = .ok (.string ph) W := fun W => by rw [Hph.out]; exact run_string_add_sum W _ nlB (by simp only [ByteArray.size_append]; omega)
  have E5 : ∀ W : World, (Op.stringOp .add ph t1).run Tryz.prog W = .ok (.string (ph ++ t1)) W := fun W => run_string_add_sum W _ _ (by omega)
  have E6 : ∀ W : World, (Op.stringOp .add (ph ++ t1) t2).run Tryz.prog W = .ok (.string (ph ++ t1 ++ t2)) W := fun W => run_string_add_sum W _ _ (by simp only [ByteArray.size_append]; omega)
  have E7 : ∀ W : World, (Op.stringOp .add (ph ++ t1 ++ t2) t3).run Tryz.prog W = .ok (.string R) W := fun W => by rw [Hpt.out]; exact run_string_add_sum W _ _ (by simp only [ByteArray.size_append]; omega)
  clear z1 z2 z3 zd zp zo zh zv hnm
  go_enter Tryz.func107, Tryz.ntmps107
  go_wp2_with fail
  have a0 : (w.alloc (.cells #[.string x, .int .i64 x1, .int .i64 x2, .int .i64 x3, .slice A1 n1 c1, .slice A2 n2 c2, .slice A3 n3 c3] 52)).cell? ⟨w.heap.size, 0, none⟩ = some (.string x) := by simp [go_sem]
  have a1 : (w.alloc (.cells #[.string x, .int .i64 x1, .int .i64 x2, .int .i64 x3, .slice A1 n1 c1, .slice A2 n2 c2, .slice A3 n3 c3] 52)).cell? ⟨w.heap.size, 1, none⟩ = some (.int .i64 x1) := by simp [go_sem]
  have a2 : (w.alloc (.cells #[.string x, .int .i64 x1, .int .i64 x2, .int .i64 x3, .slice A1 n1 c1, .slice A2 n2 c2, .slice A3 n3 c3] 52)).cell? ⟨w.heap.size, 2, none⟩ = some (.int .i64 x2) := by simp [go_sem]
  have a3 : (w.alloc (.cells #[.string x, .int .i64 x1, .int .i64 x2, .int .i64 x3, .slice A1 n1 c1, .slice A2 n2 c2, .slice A3 n3 c3] 52)).cell? ⟨w.heap.size, 3, none⟩ = some (.int .i64 x3) := by simp [go_sem]
  have a4 : (w.alloc (.cells #[.string x, .int .i64 x1, .int .i64 x2, .int .i64 x3, .slice A1 n1 c1, .slice A2 n2 c2, .slice A3 n3 c3] 52)).cell? ⟨w.heap.size, 4, none⟩ = some (.slice A1 n1 c1) := by simp [go_sem]
  have a5 : (w.alloc (.cells #[.string x, .int .i64 x1, .int .i64 x2, .int .i64 x3, .slice A1 n1 c1, .slice A2 n2 c2, .slice A3 n3 c3] 52)).cell? ⟨w.heap.size, 5, none⟩ = some (.slice A2 n2 c2) := by simp [go_sem]
  have a6 : (w.alloc (.cells #[.string x, .int .i64 x1, .int .i64 x2, .int .i64 x3, .slice A1 n1 c1, .slice A2 n2 c2, .slice A3 n3 c3] 52)).cell? ⟨w.heap.size, 6, none⟩ = some (.slice A3 n3 c3) := by simp [go_sem]
  have r_a0 := cell_regrown a0
  have r_a1 := cell_regrown a1
  have r_a2 := cell_regrown a2
  have r_a3 := cell_regrown a3
  have r_a4 := cell_regrown a4
  have r_a5 := cell_regrown a5
  have r_a6 := cell_regrown a6
  refine wp_region_qb (by kernel_rfl) (by kernel_rfl) ?_
  repeat (go_big_quiet_step (first | (with_reducible exact Hc0.out _ _ _) | (with_reducible exact Hc1.out _ _ _) | (with_reducible exact Hc2.out _ _ _) | (with_reducible exact Hc3.out _ _ _)))
  refine wpQuiet_nil ?_
  intro w1 B1
  go_wp2_with fail
  go_ret
  exact ⟨rfl, bot (bal (Below.refl _ _) _) B1⟩
end Go.Proofs.YtminjjdnmpaaoaaGreatDoor
/-
  The program's pack.lines (a Builder), walked.
-/
set_option autoImplicit false
set_option relaxedAutoImplicit false
set_option linter.unusedVariables false
set_option linter.unusedSimpArgs false
namespace Go.Proofs.YtminjjdnmpaaoaaGreatDoor
open Go.Rows Go.RowKit Go.Shelf Go.Sort

theorem strCells_append (a b : ByteArray) : Lib.strCells (a ++ b) = Lib.strCells a ++ Lib.strCells b := by
  simp [Lib.strCells, ByteArray.data_append]

set_option maxHeartbeats 1600000 in
set_option maxRecDepth 100000 in
theorem lines_any (word : ByteArray) (hword : word.size ≤ 10) (A : Option Addr) (n c : Nat) (l : List Dep) (w : World) (S : Nat → Prop) (B b : Nat) (bs : List Value)
    (h16 : l.length ≤ 16) (hsm : ∀ d ∈ l, d.name.size ≤ 16) (hT : ∀ W, Below B w W → Tab W) (hl : SlV rDep w S l (.slice A n c)) (hS : ∀ b, S b → b < B)
    (hB : IsB B b bs w) (hbs : bs.length ≤ 1000000) (hBw : B ≤ w.heap.size) :
    Calls Tryz.prog 156 #[.pointer (some ⟨b, 0, none⟩), .string word, .slice A n c] w fun e w' => e = .returned (.tuple #[]) ∧ IsB B b (bs ++ Lib.strCells (linesD word l)) w' ∧ Below B w w' := by
  have hnx := hl.n_eq
  have hn63 : n ≤ 16 := by omega
  have Hsm := Lib.hid hsm; clear hsm
  have HT := Lib.hid hT; clear hT
  have HS := Lib.hid hS; clear hS
  have HB := Lib.hid hB; clear hB
  have Hend : Hid (linesD word l = linesD word (l.take l.length)) := by unfold Hid; rw [List.take_length]
  have Hnx := Lib.hid hnx; clear hnx
  generalize hR : linesD word l = R at *
  clear hR
  go_enter Tryz.func156, Tryz.ntmps156
  go_wp2_with fail
  go_loopw [10] (fun i wr => ∃ (k : Nat), k ≤ n ∧ i = .int .i64 k ∧ Hid (IsB B b (bs ++ Lib.strCells (linesD word (l.take k))) wr) ∧ Below B w wr) (fun i _ => n - (intOf i).toNat)
  case atStart => exact ⟨0, Nat.zero_le _, rfl, by have := HB.out; simpa [Hid, linesD, Lib.strCells] using this, Below.refl _ _⟩
  case round =>
    obtain ⟨k, hk, rfl, hIB, hbel⟩ := hrel
    by_cases hlt : k < n
    · have hkx : k < l.length := by have := Hnx.out; omega
      obtain ⟨bb, o, cs, rfl, _, hb1, ⟨s0, rfl, hnm, hr0⟩, hcell⟩ := (hl.below hbel HS.out).elem (List.getElem?_eq_getElem hkx)
      obtain ⟨pA, pc, rfl, _, _⟩ := hr0.val
      have c0 := hcell 0 _ rfl
      have c1 := hcell 1 _ rfl
      simp only [rDep, Nat.add_zero] at c0 c1
      have Htk := Lib.hid (linesD_take word hkx)
      have hz0 : (linesD word (l.take k)).size ≤ 33600 := by
        have h1 := linesD_le (word := word) (l := l.take k) hword (fun d hd => Hsm.out d (List.mem_of_mem_take hd))
        have h2 : (l.take k).length ≤ 16 := by simp; omega
        omega
      have hz1 := Hsm.out l[k] (List.getElem_mem hkx)
      have hz2 := spansText_le l[k].range
      have hk0 : (0 : Int) ≤ (k : Int) := by omega
      have hkn : (k : Int) < (n : Int) := by omega
      have hBr : B ≤ wr.heap.size := Nat.le_trans hBw hbel.size
      have Ht : Hid (Tab wr) := HT.out _ hbel
      have Hc : Hid (∀ o : Obj, ∀ d os, Calls Tryz.prog 174 #[.slice pA l[k].range.length pc] (grow (redrawn (wr.alloc o) d) os) fun e w'' => e = .returned (.string (spansText l[k].range)) ∧ ∃ p : Regrown, w'' = grow (redrawn (wr.alloc o) p.d) p.os) :=
        fun o => qcall (w := wr.alloc o) (fun W hW => spanPrint_any pA _ pc l[k].range W _ (tab_below (tab_below Ht.out (bal (Below.refl _ _) o)) hW) ((hr0.alloc o).belowSize hW))
      have Hln : Hid (lineD word l[k] = word ++ spaceB ++ l[k].name ++ spaceB ++ spansText l[k].range ++ nlB) := rfl
      have Hlen : Hid ((bs ++ Lib.strCells (linesD word (l.take k))).length ≤ 1033600) := by unfold Hid; rw [List.length_append, Lib.strCells_length]; omega
      clear hcell hr0 hz0
      generalize lineD word l[k] = line at *
      generalize l[k].name = x at *
      generalize spansText l[k].range = t at *
      generalize l[k].range.length = rl at *
      have z1 : spaceB.size = 1 := rfl
      have z2 : nlB.size = 1 := rfl
      have A1 : ∀ W : World, (Op.stringOp .add word ⟨#[32]⟩).run Tryz.prog W = .ok (.string (word ++ spaceB)) W := fun W => run_string_add_sum W _ spaceB (by omega)
      have A2 : ∀ W : World, (Op.stringOp .add (word ++ spaceB) x).run Tryz.prog W = .ok (.string (word ++ spaceB ++ x)) W := fun W => run_string_add_sum W _ _ (by simp only [ByteArray.size_append]; omega)
      have A3 : ∀ W : World, (Op.stringOp .add (word ++ spaceB ++ x) ⟨#[32]⟩).run Tryz.prog W = .ok (.string (word ++ spaceB ++ x ++ spaceB)) W := fun W => run_string_add_sum W _ spaceB (by simp only [ByteArray.size_append]; omega)
      have A4 : ∀ W : World, (Op.stringOp .add (word ++ spaceB ++ x ++ spaceB) t).run Tryz.prog W = .ok (.string (word ++ spaceB ++ x ++ spaceB ++ t)) W := fun W => run_string_add_sum W _ _ (by simp only [ByteArray.size_append]; omega)
      have A5 : ∀ W : World, (Op.stringOp .add (word ++ spaceB ++ x ++ spaceB ++ t) ⟨#[10]⟩).run Tryz.prog W = .ok (.string line) W := fun W => by rw [Hln.out]; exact run_string_add_sum W _ nlB (by simp only [ByteArray.size_append]; omega)
      have Hlz : Hid (line.size ≤ 2100) := by unfold Hid; rw [Hln.out]; simp only [ByteArray.size_append]; omega
      clear z1 z2 hz1 hz2 Hln
      go_wp2_with fail
      have a0 : (wr.alloc (.cells #[.string x, .slice pA rl pc] 68)).cell? ⟨wr.heap.size, 0, none⟩ = some (.string x) := by simp [go_sem]
      have a1 : (wr.alloc (.cells #[.string x, .slice pA rl pc] 68)).cell? ⟨wr.heap.size, 1, none⟩ = some (.slice pA rl pc) := by simp [go_sem]
      have r_a0 := cell_regrown a0
      have r_a1 := cell_regrown a1
      refine wp_region_qb_tail 12 (by kernel_rfl) (by kernel_rfl) ?_
      simp only [List.take_succ_cons, List.take_zero, List.drop_succ_cons, List.drop_zero]
      repeat (go_big_quiet_step (first | (with_reducible exact Hc.out _ _ _)))
      refine wpQuiet_nil ?_
      intro w1 B1
      have hbr1 : Below wr.heap.size wr w1 := bnew B1
      have HB1 : Hid (IsB B b (bs ++ Lib.strCells (linesD word (l.take k))) w1) := hIB.out.keep hbr1
      have hbel1 : Below B w w1 := hbel.trans (hbr1.mono hBr)
      have Hbel1 := Lib.hid hbel1; clear hbel1
      have hBw1 : B ≤ w1.heap.size := Nat.le_trans hBr hbr1.size
      have HBw1 := Lib.hid hBw1; clear hBw1
      have Hlen1 : Hid ((bs ++ Lib.strCells (linesD word (l.take k))).length + line.size ≤ 140737488355328) := by unfold Hid; have := Hlen.out; have := Hlz.out; omega
      clear A1 A2 A3 A4 A5 hbr1 B1 Hc r_a0 r_a1 a0 a1 c0 c1
      go_wp2_with fail
      refine (writeString_any _ _ _ line _ HB1.out Hlen1.out HBw1.out).mono ?_
      rintro e w2 ⟨rfl, hB2, hb2⟩
      have HB2 : Hid (IsB B b (bs ++ Lib.strCells (linesD word (l.take (k + 1)))) w2) := by
        unfold Hid; rw [Htk.out, strCells_append, ← List.append_assoc]; exact .inr hB2
      have Hbel2 := Lib.hid (Hbel1.out.trans hb2); clear hb2 hB2
      go_wp2_with fail
      go_roundw
      case rel => exact ⟨k + 1, by omega, by go_num, HB2, Hbel2.out⟩
      case measure => simp [intOf]; omega
    · have He : Hid (R = linesD word (l.take k)) := by
        unfold Hid; rw [Hend.out, show k = l.length from by have := Hnx.out; omega]
      go_wp2_with fail
      go_end0
      refine ⟨rfl, ?_, hbel⟩
      rw [He.out]; exact hIB.out

end Go.Proofs.YtminjjdnmpaaoaaGreatDoor
