/-
  New disks: the program's and the document's, walked.
  The document's disk: put, walked: a file is put into the list.
-/
import Derived.Test.YtkpbpnecmfadlaaGreatDoorDiskL
import Derived.Lib.BufferMore
set_option autoImplicit false
set_option relaxedAutoImplicit false
set_option linter.unusedVariables false
set_option linter.unusedSimpArgs false
namespace Go.Proofs.YtkpbpnecmfadlaaGreatDoor
open Go.Rows Go.RowKit Go.Shelf Go.Maps

theorem docNew_any (w : World) : Calls Tryz.prog 13 #[] w fun e w' => e = .returned (.pointer (some ⟨w.heap.size, 0, none⟩)) ∧ w' = w.alloc (.cells #[.slice none 0 0, .slice none 0 0, .int .i64 (-1)] 51) := by
  go_enter Tryz.func13, Tryz.ntmps13
  go_wp2_with fail
  go_ret
  exact ⟨rfl, rfl⟩
theorem diskNew_any (w : World) : Calls Tryz.prog 9 #[] w fun e w' => e = .returned (.pointer (some ⟨w.heap.size + 1, 0, none⟩)) ∧ w' = (w.alloc (.map #[] 0)).alloc (.cells #[.map (some w.heap.size), .slice none 0 0, .int .i64 (-1)] 44) := by
  have hmm := @run_makeMap Tryz.prog
  go_enter Tryz.func9, Tryz.ntmps9
  go_wp2_with fail
  go_ret
  exact ⟨rfl, rfl⟩
end Go.Proofs.YtkpbpnecmfadlaaGreatDoor
set_option autoImplicit false
set_option relaxedAutoImplicit false
set_option linter.unusedVariables false
set_option linter.unusedSimpArgs false
namespace Go.Proofs.YtkpbpnecmfadlaaGreatDoor
open Go.Rows Go.RowKit Go.Shelf

theorem elt_file : Elt Tryz.prog 37 3 40 := Elt.mk' (z := .agg #[.string ByteArray.empty, .bool false, .string ByteArray.empty]) (by kernel_rfl) rfl (by decide)
/-- a text is not less -/
def geP (a b : ByteArray) : Bool := !lessB a b
/-- what put leaves: the list of the disk, in blocks of the call's own -/
def PutP (w : World) (d : Nat) (rv zv : Value) (l : List File) (w' : World) : Prop :=
  ∃ v, SlV rFile w' (fun b => w.heap.size ≤ b) l v ∧ w'.heap[d]? = some (.cells #[v, rv, zv] 51 (0, 0)) ∧ w.grownBy w' (some d)
theorem putG_step {ge : ByteArray → ByteArray → Bool} {f x : File} {M R acc : List File} {k : Nat} {b : Bool} (hx : M[k]? = some x) (h : R = acc ++ putG ge f (M.drop k) b) :
    R = ((acc ++ (if (ge x.path f.path && !b) = true then [f] else [])) ++ (if x.path = f.path then [] else [x])) ++ putG ge f (M.drop (k + 1)) (b || ge x.path f.path) := by
  obtain ⟨hk, e⟩ := List.getElem?_eq_some_iff.1 hx
  rw [List.drop_eq_getElem_cons hk, e, putG] at h
  rw [h]
  simp only [List.append_assoc]
theorem putP_of {w w1 : World} {d base : Nat} {rv zv v0 v : Value} {l : List File} (hd : w.heap[d]? = some (.cells #[v0, rv, zv] 51 (0, 0)))
    (ho : Own rFile w1 base 37 v l (fun _ => False)) (hb : w.heap.size ≤ base) (hB : Below w.heap.size w w1) : PutP w d rv zv l (w1.setCell ⟨d, 0, none⟩ v) := by
  have hdl : d < w.heap.size := (Array.getElem?_eq_some_iff.1 hd).1
  have hd1 := (hB.block d hdl).trans hd
  have hne : ∀ k, v.ownBlock = some k → k ≠ d := fun k hk => by have := (ho.lt k hk).1; omega
  refine ⟨v, ?_, ?_, ?_⟩
  · refine (ho.grown (row := some d) (w' := w1.setCell ⟨d, 0, none⟩ v) ⟨rfl, rfl, rfl, by simp [World.setCell], fun k hk hne => Below.heap_setCell _ _ _ _ (fun e => hne (by rw [e]))⟩ ?_ (fun b hb => hb.elim)).slvB.more (fun b hb' _ => by omega)
    cases hv : v.ownBlock with
    | none => exact .inl rfl
    | some k => exact .inr (fun e => hne k hv (Option.some.inj e))
  · exact Go.Lib.heap_setCell_same hd1 v
  · refine ⟨hB.os, hB.tape, hB.output, by simp [World.setCell]; exact hB.size, fun k hk hne' => ?_⟩
    exact (Below.heap_setCell _ _ _ _ (fun e => hne' (by rw [e]))).trans (hB.block k hk)

set_option maxHeartbeats 3200000 in
set_option maxRecDepth 100000 in
theorem docPut_any (d : Nat) (A : Option Addr) (n c : Nat) (rv zv : Value) (M : List File) (f : File) (w : World) (S : Nat → Prop)
    (hd : w.heap[d]? = some (.cells #[.slice A n c, rv, zv] 51 (0, 0))) (hl : SlV rFile w S M (.slice A n c)) (hn9 : n ≤ 1000000000) (hS : ∀ b, S b → b < w.heap.size)
    (hfp : f.path.size ≤ maxLen) (hfd : f.data.size ≤ maxLen) :
    Calls Tryz.prog 16 #[.pointer (some ⟨d, 0, none⟩), .agg #[.string f.path, .bool f.dir, .string f.data], .bool false] w fun e w' => e = .returned (.tuple #[]) ∧ PutP w d rv zv (putG geP f M false) w' := by
  have hn := hl.n_eq
  have hcm := hl.cap_le
  unfold maxLen at hcm
  have hnc : n ≤ c := by obtain ⟨_, _, e, h, _⟩ := hl.val; simp only [Value.slice.injEq] at e; omega
  have hdl : d < w.heap.size := (Array.getElem?_eq_some_iff.1 hd).1
  have Hend : Hid (∀ (w1 : World) (base : Nat) (v : Value) (l : List File), Own rFile w1 base 37 v l (fun _ => False) → w.heap.size ≤ base → Below w.heap.size w w1 → PutP w d rv zv l (w1.setCell ⟨d, 0, none⟩ v)) := fun w1 base v l h1 h2 h3 => putP_of hd h1 h2 h3
  have Hn := Lib.hid hn
  have HL := Lib.hid hl
  have HD := Lib.hid hd
  have Hfh : Hid (∀ W, rFile.holds W (fun _ => False) f [.string f.path, .bool f.dir, .string f.data]) := fun W => ⟨rfl, hfp, hfd⟩
  obtain ⟨R, hR⟩ : ∃ R, R = putG geP f M false := ⟨_, rfl⟩
  rw [← hR]
  have HR := Lib.hid hR
  clear hd hn hl hR hfp hfd
  go_enter Tryz.func16, Tryz.ntmps16
  go_wp2_with fail
  obtain ⟨w0, hw0⟩ : ∃ w0, w0 = w.alloc (.cells #[.string f.path, .bool f.dir, .string f.data] 37) := ⟨_, rfl⟩
  have HZ0 : Hid (w0.heap.size = w.heap.size + 1) := by unfold Hid; rw [hw0]; simp
  have HB0 : Hid (Below w.heap.size w w0) := by unfold Hid; rw [hw0]; exact bal (Below.refl _ _) _
  have HQ0 : Hid (w0.heap[w.heap.size]? = some (.cells #[.string f.path, .bool f.dir, .string f.data] 37 (0, 0))) := by unfold Hid; rw [hw0]; exact (MapKept.heap_alloc w _).1
  have HD0 : Hid (w0.heap[d]? = some (.cells #[.slice A n c, rv, zv] 51 (0, 0))) := (HB0.out.block d hdl).trans HD.out
  have HL0 := Lib.hid (HL.out.belowSize HB0.out)
  rw [← hw0]
  clear hw0 HL HD
  go_loopw [6, 7, 8] (fun v z i wr => ∃ (k : Nat) (acc : List File) (b : Bool), k ≤ n ∧ z = .bool b ∧ i = .int .i64 k ∧ Hid (R = acc ++ putG geP f (M.drop k) b) ∧ Hid (acc.length ≤ 2 * k) ∧ Hid (Own rFile wr w0.heap.size 37 v acc (fun _ => False)) ∧ Hid (Below w0.heap.size w0 wr)) (fun _ _ i _ => n - (intOf i).toNat)
  case atStart => exact ⟨0, [], false, Nat.zero_le _, rfl, rfl, HR, Nat.zero_le _, Own.nil_ _ _ _ _ (fun _ h => h.elim), Below.refl _ _⟩
  case round =>
    obtain ⟨k, acc, b, hk, rfl, rfl, Hm, Hlen, HO, HB⟩ := hrel
    obtain ⟨vA, vc, rfl, _, _⟩ := HO.out.slv.val
    have HQr : Hid (wr.heap[w.heap.size]? = some (.cells #[.string f.path, .bool f.dir, .string f.data] 37 (0, 0))) := (HB.out.block _ (by rw [HZ0.out]; omega)).trans HQ0.out
    have HDr : Hid (wr.heap[d]? = some (.cells #[.slice A n c, rv, zv] 51 (0, 0))) := (HB.out.block _ (by rw [HZ0.out]; omega)).trans HD0.out
    have q0 : wr.cell? ⟨w.heap.size, 0, none⟩ = some (.string f.path) := cell_of_row wr _ 0 _ _ _ HQr.out
    have q1 : wr.cell? ⟨w.heap.size, 1, none⟩ = some (.bool f.dir) := cell_of_row wr _ 1 _ _ _ HQr.out
    have q2 : wr.cell? ⟨w.heap.size, 2, none⟩ = some (.string f.data) := cell_of_row wr _ 2 _ _ _ HQr.out
    have d0 : wr.cell? ⟨d, 0, none⟩ = some (.slice A n c) := cell_of_row wr d 0 _ _ _ HDr.out
    have hk0 : (0 : Int) ≤ (k : Int) := by omega
    have hzr := HB.out.size
    have f0 : wr.frozen? ⟨d, 0, none⟩ = false := Lib.frozen_of_heap HDr.out 0
    by_cases hlt : k < n
    case neg =>
      obtain rfl : k = n := by omega
      have hI : ¬ (k : Int) < (k : Int) := by omega
      have hm := Hm.out
      rw [List.drop_eq_nil_of_le (by rw [← Hn.out]; exact Nat.le_refl _), putG] at hm
      have hlen := Hlen.out
      cases b with
      | true =>
        have Hr : Hid (R = acc) := by unfold Hid; rw [hm]; simp
        clear hm Hm
        go_wp2_with fail
        go_end0
        exact ⟨rfl, by rw [Hr.out]; exact Hend.out _ _ _ _ HO.out (by rw [HZ0.out]; omega) (bot HB0.out HB.out)⟩
      | false =>
        have Hr : Hid (R = acc ++ [f]) := by unfold Hid; rw [hm]; simp
        clear hm Hm
        go_wp2_with (at_builtin; refine wpList_push (by rfl) _ _ _ (by rfl) elt_file Tryz.underlying22 (by rfl) (HO.out.alloc _) ⟨wr.heap.size, 0, none⟩ 1 [.string f.path, .bool f.dir, .string f.data] f (by rfl) (Hfh.out _) (news_of wr #[.string f.path, .bool f.dir, .string f.data] _) (by unfold maxLen; omega) (by omega) (by simp; omega) (wr.heap.size + 1) (by simp) ?_)
        intro g cap w5 hown5 hgrow5 hat5 hg5
        have HB5 := Lib.hid (bgrown (bal HB.out _) hgrow5 (HO.out.alloc _) (Nat.le_refl _))
        have Hown5 := Lib.hid hown5
        have HD5 : Hid (w5.heap[d]? = some (.cells #[.slice A k c, rv, zv] 51 (0, 0))) := (HB5.out.block _ (by rw [HZ0.out]; omega)).trans HD0.out
        have d5 : w5.cell? ⟨d, 0, none⟩ = some (.slice A k c) := cell_of_row w5 d 0 _ _ _ HD5.out
        have f5 : w5.frozen? ⟨d, 0, none⟩ = false := Lib.frozen_of_heap HD5.out 0
        clear hown5 hgrow5 HO HB
        go_wp2_with fail
        go_end0
        exact ⟨rfl, by rw [Hr.out]; exact Hend.out _ _ _ _ Hown5.out (by rw [HZ0.out]; omega) (bot HB0.out HB5.out)⟩
    have hkI : (k : Int) < (n : Int) := by omega
    have hkl : k < M.length := by rw [← Hn.out]; exact hlt
    obtain ⟨x, hx⟩ : ∃ x, M[k]? = some x := ⟨_, List.getElem?_eq_getElem hkl⟩
    have Hst := Lib.hid (putG_step hx Hm.out)
    obtain ⟨xb, xo, cs, hA, hSx, _, ⟨hcs, hz1, hz2⟩, hcell⟩ := (HL0.out.belowSize HB.out).elem hx
    subst hA
    have HXB : Hid (xb < w0.heap.size) := by have := hS xb hSx; have := HZ0.out; unfold Hid; omega
    have Hxh : Hid (∀ W, rFile.holds W (fun _ => False) x [.string x.path, .bool x.dir, .string x.data]) := fun W => ⟨rfl, hz1, hz2⟩
    have c0 := hcell 0 _ (by rw [hcs]; rfl)
    have c1 := hcell 1 _ (by rw [hcs]; rfl)
    have c2 := hcell 2 _ (by rw [hcs]; rfl)
    rw [show xo + k * rFile.size + 0 = xo + k * 3 from rfl] at c0
    rw [show xo + k * rFile.size + 1 = xo + k * 3 + 1 from rfl] at c1
    rw [show xo + k * rFile.size + 2 = xo + k * 3 + 2 from rfl] at c2
    have hxb : xb < wr.heap.size := cell_lt c0
    have hlen := Hlen.out
    have HC : Hid (∀ W, Below w0.heap.size w0 W → W.cell? ⟨xb, xo + k * 3, none⟩ = some (.string x.path) ∧ W.cell? ⟨xb, xo + k * 3 + 1, none⟩ = some (.bool x.dir) ∧ W.cell? ⟨xb, xo + k * 3 + 2, none⟩ = some (.string x.data)) := fun W hW => by
      have hxx : xb < w0.heap.size := by have := HXB.out; omega
      have e := (hW.block xb hxx).trans (HB.out.block xb hxx).symm
      exact ⟨(cell_same e _ _).trans c0, (cell_same e _ _).trans c1, (cell_same e _ _).trans c2⟩
    clear hcell hcs hx hz1 hz2 Hm
    have hge : Hid (geP x.path f.path = !Op.bytesLess x.path.toList f.path.toList) := rfl
    cases hls : Op.bytesLess x.path.toList f.path.toList <;> rw [hls] at hge <;> cases b <;> by_cases hp : x.path = f.path
    · have Hs : Hid (R = (acc ++ [f]) ++ putG geP f (M.drop (k + 1)) true) := by unfold Hid; rw [Hst.out, hge.out, if_pos hp]; simp
      have hb := beq_true hp
      clear Hst hge hp Hlen HR
      go_wp2_with fail
      go_quiet (fail)
      have HOwa : Hid (Own rFile (wr.drewN nq) w0.heap.size 37 _ _ (fun _ => False)) := HO.out.drewN nq
      have HBwa : Hid (Below w0.heap.size w0 (wr.drewN nq)) := ⟨HB.out.os, HB.out.tape, HB.out.output, HB.out.size, HB.out.block⟩
      generalize wr.drewN nq = wa at *
      clear nq
      have HQwa : Hid (wa.heap[w.heap.size]? = some (.cells #[.string f.path, .bool f.dir, .string f.data] 37 (0, 0))) := (HBwa.out.block _ (by rw [HZ0.out]; omega)).trans HQ0.out
      have HDwa : Hid (wa.heap[d]? = some (.cells #[.slice (some ⟨xb, xo, none⟩) n c, rv, zv] 51 (0, 0))) := (HBwa.out.block _ (by rw [HZ0.out]; omega)).trans HD0.out
      have q0 : wa.cell? ⟨w.heap.size, 0, none⟩ = some (.string f.path) := cell_of_row wa _ 0 _ _ _ HQwa.out
      have q1 : wa.cell? ⟨w.heap.size, 1, none⟩ = some (.bool f.dir) := cell_of_row wa _ 1 _ _ _ HQwa.out
      have q2 : wa.cell? ⟨w.heap.size, 2, none⟩ = some (.string f.data) := cell_of_row wa _ 2 _ _ _ HQwa.out
      have d0 : wa.cell? ⟨d, 0, none⟩ = some (.slice (some ⟨xb, xo, none⟩) n c) := cell_of_row wa d 0 _ _ _ HDwa.out
      obtain ⟨c0, c1, c2⟩ := HC.out wa HBwa.out
      have hzwa := HBwa.out.size
      clear HO HB HQr HDr
      go_wp2_with (at_builtin; refine wpList_push (by rfl) _ _ _ (by rfl) elt_file Tryz.underlying22 (by rfl) (HOwa.out.alloc _) ⟨wa.heap.size, 0, none⟩ 1 [.string f.path, .bool f.dir, .string f.data] f (by rfl) (Hfh.out _) (news_of wa #[.string f.path, .bool f.dir, .string f.data] _) (by unfold maxLen; omega) (by omega) (by simp; omega) (wa.heap.size + 1) (by simp) ?_)
      intro g5 cap5 w5 hown5 hgrow5 hat5 hg5
      have HB5 := Lib.hid (bgrown (bal HBwa.out _) hgrow5 (HOwa.out.alloc _) (Nat.le_refl _))
      have HO5 := Lib.hid hown5
      have hz5 := HB5.out.size
      clear hown5 hgrow5 hat5 hg5
      clear q0 q1 q2 d0 c0 c1 c2
      have HQw5 : Hid (w5.heap[w.heap.size]? = some (.cells #[.string f.path, .bool f.dir, .string f.data] 37 (0, 0))) := (HB5.out.block _ (by rw [HZ0.out]; omega)).trans HQ0.out
      have HDw5 : Hid (w5.heap[d]? = some (.cells #[.slice (some ⟨xb, xo, none⟩) n c, rv, zv] 51 (0, 0))) := (HB5.out.block _ (by rw [HZ0.out]; omega)).trans HD0.out
      have q0 : w5.cell? ⟨w.heap.size, 0, none⟩ = some (.string f.path) := cell_of_row w5 _ 0 _ _ _ HQw5.out
      have q1 : w5.cell? ⟨w.heap.size, 1, none⟩ = some (.bool f.dir) := cell_of_row w5 _ 1 _ _ _ HQw5.out
      have q2 : w5.cell? ⟨w.heap.size, 2, none⟩ = some (.string f.data) := cell_of_row w5 _ 2 _ _ _ HQw5.out
      have d0 : w5.cell? ⟨d, 0, none⟩ = some (.slice (some ⟨xb, xo, none⟩) n c) := cell_of_row w5 d 0 _ _ _ HDw5.out
      obtain ⟨c0, c1, c2⟩ := HC.out w5 HB5.out
      have hlen5 : (acc ++ [f]).length ≤ 2 * k + 1 := by rw [List.length_append, List.length_singleton]; omega
      rw [show acc.length + 1 = (acc ++ [f]).length from by rw [List.length_append, List.length_singleton]] at HO5
      rw [show acc.length + 1 = (acc ++ [f]).length from by rw [List.length_append, List.length_singleton]]
      generalize acc ++ [f] = acc5 at *
      clear HOwa HBwa
      go_wp2_with fail
      go_quiet (fail)
      have HOwb : Hid (Own rFile (w5.drewN nq) w0.heap.size 37 _ _ (fun _ => False)) := HO5.out.drewN nq
      have HBwb : Hid (Below w0.heap.size w0 (w5.drewN nq)) := ⟨HB5.out.os, HB5.out.tape, HB5.out.output, HB5.out.size, HB5.out.block⟩
      generalize w5.drewN nq = wb at *
      clear nq
      clear q0 q1 q2 d0 c0 c1 c2
      have HQwb : Hid (wb.heap[w.heap.size]? = some (.cells #[.string f.path, .bool f.dir, .string f.data] 37 (0, 0))) := (HBwb.out.block _ (by rw [HZ0.out]; omega)).trans HQ0.out
      have HDwb : Hid (wb.heap[d]? = some (.cells #[.slice (some ⟨xb, xo, none⟩) n c, rv, zv] 51 (0, 0))) := (HBwb.out.block _ (by rw [HZ0.out]; omega)).trans HD0.out
      have q0 : wb.cell? ⟨w.heap.size, 0, none⟩ = some (.string f.path) := cell_of_row wb _ 0 _ _ _ HQwb.out
      have q1 : wb.cell? ⟨w.heap.size, 1, none⟩ = some (.bool f.dir) := cell_of_row wb _ 1 _ _ _ HQwb.out
      have q2 : wb.cell? ⟨w.heap.size, 2, none⟩ = some (.string f.data) := cell_of_row wb _ 2 _ _ _ HQwb.out
      have d0 : wb.cell? ⟨d, 0, none⟩ = some (.slice (some ⟨xb, xo, none⟩) n c) := cell_of_row wb d 0 _ _ _ HDwb.out
      obtain ⟨c0, c1, c2⟩ := HC.out wb HBwb.out
      have hzwb := HBwb.out.size
      go_wp2_with fail
      go_roundw
      case rel => exact ⟨k + 1, _, true, by omega, rfl, by go_num, Hs, by unfold Hid; first | omega | (rw [List.length_append, List.length_singleton]; omega), HOwb, HBwb⟩
      case measure => simp [intOf]; omega
    · have Hs : Hid (R = ((acc ++ [f]) ++ [x]) ++ putG geP f (M.drop (k + 1)) true) := by unfold Hid; rw [Hst.out, hge.out, if_neg hp]; simp
      have hb := beq_false hp
      clear Hst hge hp Hlen HR
      go_wp2_with fail
      go_quiet (fail)
      have HOwa : Hid (Own rFile (wr.drewN nq) w0.heap.size 37 _ _ (fun _ => False)) := HO.out.drewN nq
      have HBwa : Hid (Below w0.heap.size w0 (wr.drewN nq)) := ⟨HB.out.os, HB.out.tape, HB.out.output, HB.out.size, HB.out.block⟩
      generalize wr.drewN nq = wa at *
      clear nq
      have HQwa : Hid (wa.heap[w.heap.size]? = some (.cells #[.string f.path, .bool f.dir, .string f.data] 37 (0, 0))) := (HBwa.out.block _ (by rw [HZ0.out]; omega)).trans HQ0.out
      have HDwa : Hid (wa.heap[d]? = some (.cells #[.slice (some ⟨xb, xo, none⟩) n c, rv, zv] 51 (0, 0))) := (HBwa.out.block _ (by rw [HZ0.out]; omega)).trans HD0.out
      have q0 : wa.cell? ⟨w.heap.size, 0, none⟩ = some (.string f.path) := cell_of_row wa _ 0 _ _ _ HQwa.out
      have q1 : wa.cell? ⟨w.heap.size, 1, none⟩ = some (.bool f.dir) := cell_of_row wa _ 1 _ _ _ HQwa.out
      have q2 : wa.cell? ⟨w.heap.size, 2, none⟩ = some (.string f.data) := cell_of_row wa _ 2 _ _ _ HQwa.out
      have d0 : wa.cell? ⟨d, 0, none⟩ = some (.slice (some ⟨xb, xo, none⟩) n c) := cell_of_row wa d 0 _ _ _ HDwa.out
      obtain ⟨c0, c1, c2⟩ := HC.out wa HBwa.out
      have hzwa := HBwa.out.size
      clear HO HB HQr HDr
      go_wp2_with (at_builtin; refine wpList_push (by rfl) _ _ _ (by rfl) elt_file Tryz.underlying22 (by rfl) (HOwa.out.alloc _) ⟨wa.heap.size, 0, none⟩ 1 [.string f.path, .bool f.dir, .string f.data] f (by rfl) (Hfh.out _) (news_of wa #[.string f.path, .bool f.dir, .string f.data] _) (by unfold maxLen; omega) (by omega) (by simp; omega) (wa.heap.size + 1) (by simp) ?_)
      intro g5 cap5 w5 hown5 hgrow5 hat5 hg5
      have HB5 := Lib.hid (bgrown (bal HBwa.out _) hgrow5 (HOwa.out.alloc _) (Nat.le_refl _))
      have HO5 := Lib.hid hown5
      have hz5 := HB5.out.size
      clear hown5 hgrow5 hat5 hg5
      clear q0 q1 q2 d0 c0 c1 c2
      have HQw5 : Hid (w5.heap[w.heap.size]? = some (.cells #[.string f.path, .bool f.dir, .string f.data] 37 (0, 0))) := (HB5.out.block _ (by rw [HZ0.out]; omega)).trans HQ0.out
      have HDw5 : Hid (w5.heap[d]? = some (.cells #[.slice (some ⟨xb, xo, none⟩) n c, rv, zv] 51 (0, 0))) := (HB5.out.block _ (by rw [HZ0.out]; omega)).trans HD0.out
      have q0 : w5.cell? ⟨w.heap.size, 0, none⟩ = some (.string f.path) := cell_of_row w5 _ 0 _ _ _ HQw5.out
      have q1 : w5.cell? ⟨w.heap.size, 1, none⟩ = some (.bool f.dir) := cell_of_row w5 _ 1 _ _ _ HQw5.out
      have q2 : w5.cell? ⟨w.heap.size, 2, none⟩ = some (.string f.data) := cell_of_row w5 _ 2 _ _ _ HQw5.out
      have d0 : w5.cell? ⟨d, 0, none⟩ = some (.slice (some ⟨xb, xo, none⟩) n c) := cell_of_row w5 d 0 _ _ _ HDw5.out
      obtain ⟨c0, c1, c2⟩ := HC.out w5 HB5.out
      have hlen5 : (acc ++ [f]).length ≤ 2 * k + 1 := by rw [List.length_append, List.length_singleton]; omega
      rw [show acc.length + 1 = (acc ++ [f]).length from by rw [List.length_append, List.length_singleton]] at HO5
      rw [show acc.length + 1 = (acc ++ [f]).length from by rw [List.length_append, List.length_singleton]]
      generalize acc ++ [f] = acc5 at *
      clear HOwa HBwa
      go_wp2_with fail
      go_quiet (fail)
      have HOwb : Hid (Own rFile (w5.drewN nq) w0.heap.size 37 _ _ (fun _ => False)) := HO5.out.drewN nq
      have HBwb : Hid (Below w0.heap.size w0 (w5.drewN nq)) := ⟨HB5.out.os, HB5.out.tape, HB5.out.output, HB5.out.size, HB5.out.block⟩
      generalize w5.drewN nq = wb at *
      clear nq
      clear q0 q1 q2 d0 c0 c1 c2
      have HQwb : Hid (wb.heap[w.heap.size]? = some (.cells #[.string f.path, .bool f.dir, .string f.data] 37 (0, 0))) := (HBwb.out.block _ (by rw [HZ0.out]; omega)).trans HQ0.out
      have HDwb : Hid (wb.heap[d]? = some (.cells #[.slice (some ⟨xb, xo, none⟩) n c, rv, zv] 51 (0, 0))) := (HBwb.out.block _ (by rw [HZ0.out]; omega)).trans HD0.out
      have q0 : wb.cell? ⟨w.heap.size, 0, none⟩ = some (.string f.path) := cell_of_row wb _ 0 _ _ _ HQwb.out
      have q1 : wb.cell? ⟨w.heap.size, 1, none⟩ = some (.bool f.dir) := cell_of_row wb _ 1 _ _ _ HQwb.out
      have q2 : wb.cell? ⟨w.heap.size, 2, none⟩ = some (.string f.data) := cell_of_row wb _ 2 _ _ _ HQwb.out
      have d0 : wb.cell? ⟨d, 0, none⟩ = some (.slice (some ⟨xb, xo, none⟩) n c) := cell_of_row wb d 0 _ _ _ HDwb.out
      obtain ⟨c0, c1, c2⟩ := HC.out wb HBwb.out
      have hzwb := HBwb.out.size
      go_wp2_with (at_builtin; refine wpList_push (by rfl) _ _ _ (by rfl) elt_file Tryz.underlying22 (by rfl) (HOwb.out.alloc _) ⟨wb.heap.size, 0, none⟩ 1 [.string x.path, .bool x.dir, .string x.data] x (by rfl) (Hxh.out _) (news_of wb #[.string x.path, .bool x.dir, .string x.data] _) (by unfold maxLen; omega) (by omega) (by simp; omega) (wb.heap.size + 1) (by simp) ?_)
      intro g7 cap7 w7 hown7 hgrow7 hat7 hg7
      have HB7 := Lib.hid (bgrown (bal HBwb.out _) hgrow7 (HOwb.out.alloc _) (Nat.le_refl _))
      have HO7 := Lib.hid hown7
      have hz7 := HB7.out.size
      clear hown7 hgrow7 hat7 hg7
      rw [show acc5.length + 1 = (acc5 ++ [x]).length from by rw [List.length_append, List.length_singleton]] at HO7
      rw [show acc5.length + 1 = (acc5 ++ [x]).length from by rw [List.length_append, List.length_singleton]]
      go_wp2_with fail
      go_roundw
      case rel => exact ⟨k + 1, _, true, by omega, rfl, by go_num, Hs, by unfold Hid; first | omega | (rw [List.length_append, List.length_singleton]; omega), HO7, HB7⟩
      case measure => simp [intOf]; omega
    · have Hs : Hid (R = acc ++ putG geP f (M.drop (k + 1)) true) := by unfold Hid; rw [Hst.out, hge.out, if_pos hp]; simp
      have hb := beq_true hp
      clear Hst hge hp Hlen HR
      go_wp2_with fail
      go_quiet (fail)
      have HOwa : Hid (Own rFile (wr.drewN nq) w0.heap.size 37 _ _ (fun _ => False)) := HO.out.drewN nq
      have HBwa : Hid (Below w0.heap.size w0 (wr.drewN nq)) := ⟨HB.out.os, HB.out.tape, HB.out.output, HB.out.size, HB.out.block⟩
      generalize wr.drewN nq = wa at *
      clear nq
      have HQwa : Hid (wa.heap[w.heap.size]? = some (.cells #[.string f.path, .bool f.dir, .string f.data] 37 (0, 0))) := (HBwa.out.block _ (by rw [HZ0.out]; omega)).trans HQ0.out
      have HDwa : Hid (wa.heap[d]? = some (.cells #[.slice (some ⟨xb, xo, none⟩) n c, rv, zv] 51 (0, 0))) := (HBwa.out.block _ (by rw [HZ0.out]; omega)).trans HD0.out
      have q0 : wa.cell? ⟨w.heap.size, 0, none⟩ = some (.string f.path) := cell_of_row wa _ 0 _ _ _ HQwa.out
      have q1 : wa.cell? ⟨w.heap.size, 1, none⟩ = some (.bool f.dir) := cell_of_row wa _ 1 _ _ _ HQwa.out
      have q2 : wa.cell? ⟨w.heap.size, 2, none⟩ = some (.string f.data) := cell_of_row wa _ 2 _ _ _ HQwa.out
      have d0 : wa.cell? ⟨d, 0, none⟩ = some (.slice (some ⟨xb, xo, none⟩) n c) := cell_of_row wa d 0 _ _ _ HDwa.out
      obtain ⟨c0, c1, c2⟩ := HC.out wa HBwa.out
      have hzwa := HBwa.out.size
      clear HO HB HQr HDr
      go_wp2_with fail
      go_quiet (fail)
      have HOwb : Hid (Own rFile (wa.drewN nq) w0.heap.size 37 _ _ (fun _ => False)) := HOwa.out.drewN nq
      have HBwb : Hid (Below w0.heap.size w0 (wa.drewN nq)) := ⟨HBwa.out.os, HBwa.out.tape, HBwa.out.output, HBwa.out.size, HBwa.out.block⟩
      generalize wa.drewN nq = wb at *
      clear nq
      clear q0 q1 q2 d0 c0 c1 c2
      have HQwb : Hid (wb.heap[w.heap.size]? = some (.cells #[.string f.path, .bool f.dir, .string f.data] 37 (0, 0))) := (HBwb.out.block _ (by rw [HZ0.out]; omega)).trans HQ0.out
      have HDwb : Hid (wb.heap[d]? = some (.cells #[.slice (some ⟨xb, xo, none⟩) n c, rv, zv] 51 (0, 0))) := (HBwb.out.block _ (by rw [HZ0.out]; omega)).trans HD0.out
      have q0 : wb.cell? ⟨w.heap.size, 0, none⟩ = some (.string f.path) := cell_of_row wb _ 0 _ _ _ HQwb.out
      have q1 : wb.cell? ⟨w.heap.size, 1, none⟩ = some (.bool f.dir) := cell_of_row wb _ 1 _ _ _ HQwb.out
      have q2 : wb.cell? ⟨w.heap.size, 2, none⟩ = some (.string f.data) := cell_of_row wb _ 2 _ _ _ HQwb.out
      have d0 : wb.cell? ⟨d, 0, none⟩ = some (.slice (some ⟨xb, xo, none⟩) n c) := cell_of_row wb d 0 _ _ _ HDwb.out
      obtain ⟨c0, c1, c2⟩ := HC.out wb HBwb.out
      have hzwb := HBwb.out.size
      go_wp2_with fail
      go_roundw
      case rel => exact ⟨k + 1, _, true, by omega, rfl, by go_num, Hs, by unfold Hid; first | omega | (rw [List.length_append, List.length_singleton]; omega), HOwb, HBwb⟩
      case measure => simp [intOf]; omega
    · have Hs : Hid (R = (acc ++ [x]) ++ putG geP f (M.drop (k + 1)) true) := by unfold Hid; rw [Hst.out, hge.out, if_neg hp]; simp
      have hb := beq_false hp
      clear Hst hge hp Hlen HR
      go_wp2_with fail
      go_quiet (fail)
      have HOwa : Hid (Own rFile (wr.drewN nq) w0.heap.size 37 _ _ (fun _ => False)) := HO.out.drewN nq
      have HBwa : Hid (Below w0.heap.size w0 (wr.drewN nq)) := ⟨HB.out.os, HB.out.tape, HB.out.output, HB.out.size, HB.out.block⟩
      generalize wr.drewN nq = wa at *
      clear nq
      have HQwa : Hid (wa.heap[w.heap.size]? = some (.cells #[.string f.path, .bool f.dir, .string f.data] 37 (0, 0))) := (HBwa.out.block _ (by rw [HZ0.out]; omega)).trans HQ0.out
      have HDwa : Hid (wa.heap[d]? = some (.cells #[.slice (some ⟨xb, xo, none⟩) n c, rv, zv] 51 (0, 0))) := (HBwa.out.block _ (by rw [HZ0.out]; omega)).trans HD0.out
      have q0 : wa.cell? ⟨w.heap.size, 0, none⟩ = some (.string f.path) := cell_of_row wa _ 0 _ _ _ HQwa.out
      have q1 : wa.cell? ⟨w.heap.size, 1, none⟩ = some (.bool f.dir) := cell_of_row wa _ 1 _ _ _ HQwa.out
      have q2 : wa.cell? ⟨w.heap.size, 2, none⟩ = some (.string f.data) := cell_of_row wa _ 2 _ _ _ HQwa.out
      have d0 : wa.cell? ⟨d, 0, none⟩ = some (.slice (some ⟨xb, xo, none⟩) n c) := cell_of_row wa d 0 _ _ _ HDwa.out
      obtain ⟨c0, c1, c2⟩ := HC.out wa HBwa.out
      have hzwa := HBwa.out.size
      clear HO HB HQr HDr
      go_wp2_with fail
      go_quiet (fail)
      have HOwb : Hid (Own rFile (wa.drewN nq) w0.heap.size 37 _ _ (fun _ => False)) := HOwa.out.drewN nq
      have HBwb : Hid (Below w0.heap.size w0 (wa.drewN nq)) := ⟨HBwa.out.os, HBwa.out.tape, HBwa.out.output, HBwa.out.size, HBwa.out.block⟩
      generalize wa.drewN nq = wb at *
      clear nq
      clear q0 q1 q2 d0 c0 c1 c2
      have HQwb : Hid (wb.heap[w.heap.size]? = some (.cells #[.string f.path, .bool f.dir, .string f.data] 37 (0, 0))) := (HBwb.out.block _ (by rw [HZ0.out]; omega)).trans HQ0.out
      have HDwb : Hid (wb.heap[d]? = some (.cells #[.slice (some ⟨xb, xo, none⟩) n c, rv, zv] 51 (0, 0))) := (HBwb.out.block _ (by rw [HZ0.out]; omega)).trans HD0.out
      have q0 : wb.cell? ⟨w.heap.size, 0, none⟩ = some (.string f.path) := cell_of_row wb _ 0 _ _ _ HQwb.out
      have q1 : wb.cell? ⟨w.heap.size, 1, none⟩ = some (.bool f.dir) := cell_of_row wb _ 1 _ _ _ HQwb.out
      have q2 : wb.cell? ⟨w.heap.size, 2, none⟩ = some (.string f.data) := cell_of_row wb _ 2 _ _ _ HQwb.out
      have d0 : wb.cell? ⟨d, 0, none⟩ = some (.slice (some ⟨xb, xo, none⟩) n c) := cell_of_row wb d 0 _ _ _ HDwb.out
      obtain ⟨c0, c1, c2⟩ := HC.out wb HBwb.out
      have hzwb := HBwb.out.size
      go_wp2_with (at_builtin; refine wpList_push (by rfl) _ _ _ (by rfl) elt_file Tryz.underlying22 (by rfl) (HOwb.out.alloc _) ⟨wb.heap.size, 0, none⟩ 1 [.string x.path, .bool x.dir, .string x.data] x (by rfl) (Hxh.out _) (news_of wb #[.string x.path, .bool x.dir, .string x.data] _) (by unfold maxLen; omega) (by omega) (by simp; omega) (wb.heap.size + 1) (by simp) ?_)
      intro g7 cap7 w7 hown7 hgrow7 hat7 hg7
      have HB7 := Lib.hid (bgrown (bal HBwb.out _) hgrow7 (HOwb.out.alloc _) (Nat.le_refl _))
      have HO7 := Lib.hid hown7
      have hz7 := HB7.out.size
      clear hown7 hgrow7 hat7 hg7
      rw [show acc.length + 1 = (acc ++ [x]).length from by rw [List.length_append, List.length_singleton]] at HO7
      rw [show acc.length + 1 = (acc ++ [x]).length from by rw [List.length_append, List.length_singleton]]
      go_wp2_with fail
      go_roundw
      case rel => exact ⟨k + 1, _, true, by omega, rfl, by go_num, Hs, by unfold Hid; first | omega | (rw [List.length_append, List.length_singleton]; omega), HO7, HB7⟩
      case measure => simp [intOf]; omega
    · have Hs : Hid (R = acc ++ putG geP f (M.drop (k + 1)) false) := by unfold Hid; rw [Hst.out, hge.out, if_pos hp]; simp
      have hb := beq_true hp
      clear Hst hge hp Hlen HR
      go_wp2_with fail
      go_quiet (fail)
      have HOwa : Hid (Own rFile (wr.drewN nq) w0.heap.size 37 _ _ (fun _ => False)) := HO.out.drewN nq
      have HBwa : Hid (Below w0.heap.size w0 (wr.drewN nq)) := ⟨HB.out.os, HB.out.tape, HB.out.output, HB.out.size, HB.out.block⟩
      generalize wr.drewN nq = wa at *
      clear nq
      have HQwa : Hid (wa.heap[w.heap.size]? = some (.cells #[.string f.path, .bool f.dir, .string f.data] 37 (0, 0))) := (HBwa.out.block _ (by rw [HZ0.out]; omega)).trans HQ0.out
      have HDwa : Hid (wa.heap[d]? = some (.cells #[.slice (some ⟨xb, xo, none⟩) n c, rv, zv] 51 (0, 0))) := (HBwa.out.block _ (by rw [HZ0.out]; omega)).trans HD0.out
      have q0 : wa.cell? ⟨w.heap.size, 0, none⟩ = some (.string f.path) := cell_of_row wa _ 0 _ _ _ HQwa.out
      have q1 : wa.cell? ⟨w.heap.size, 1, none⟩ = some (.bool f.dir) := cell_of_row wa _ 1 _ _ _ HQwa.out
      have q2 : wa.cell? ⟨w.heap.size, 2, none⟩ = some (.string f.data) := cell_of_row wa _ 2 _ _ _ HQwa.out
      have d0 : wa.cell? ⟨d, 0, none⟩ = some (.slice (some ⟨xb, xo, none⟩) n c) := cell_of_row wa d 0 _ _ _ HDwa.out
      obtain ⟨c0, c1, c2⟩ := HC.out wa HBwa.out
      have hzwa := HBwa.out.size
      clear HO HB HQr HDr
      go_wp2_with fail
      go_quiet (fail)
      have HOwb : Hid (Own rFile (wa.drewN nq) w0.heap.size 37 _ _ (fun _ => False)) := HOwa.out.drewN nq
      have HBwb : Hid (Below w0.heap.size w0 (wa.drewN nq)) := ⟨HBwa.out.os, HBwa.out.tape, HBwa.out.output, HBwa.out.size, HBwa.out.block⟩
      generalize wa.drewN nq = wb at *
      clear nq
      clear q0 q1 q2 d0 c0 c1 c2
      have HQwb : Hid (wb.heap[w.heap.size]? = some (.cells #[.string f.path, .bool f.dir, .string f.data] 37 (0, 0))) := (HBwb.out.block _ (by rw [HZ0.out]; omega)).trans HQ0.out
      have HDwb : Hid (wb.heap[d]? = some (.cells #[.slice (some ⟨xb, xo, none⟩) n c, rv, zv] 51 (0, 0))) := (HBwb.out.block _ (by rw [HZ0.out]; omega)).trans HD0.out
      have q0 : wb.cell? ⟨w.heap.size, 0, none⟩ = some (.string f.path) := cell_of_row wb _ 0 _ _ _ HQwb.out
      have q1 : wb.cell? ⟨w.heap.size, 1, none⟩ = some (.bool f.dir) := cell_of_row wb _ 1 _ _ _ HQwb.out
      have q2 : wb.cell? ⟨w.heap.size, 2, none⟩ = some (.string f.data) := cell_of_row wb _ 2 _ _ _ HQwb.out
      have d0 : wb.cell? ⟨d, 0, none⟩ = some (.slice (some ⟨xb, xo, none⟩) n c) := cell_of_row wb d 0 _ _ _ HDwb.out
      obtain ⟨c0, c1, c2⟩ := HC.out wb HBwb.out
      have hzwb := HBwb.out.size
      go_wp2_with fail
      go_roundw
      case rel => exact ⟨k + 1, _, false, by omega, rfl, by go_num, Hs, by unfold Hid; first | omega | (rw [List.length_append, List.length_singleton]; omega), HOwb, HBwb⟩
      case measure => simp [intOf]; omega
    · have Hs : Hid (R = (acc ++ [x]) ++ putG geP f (M.drop (k + 1)) false) := by unfold Hid; rw [Hst.out, hge.out, if_neg hp]; simp
      have hb := beq_false hp
      clear Hst hge hp Hlen HR
      go_wp2_with fail
      go_quiet (fail)
      have HOwa : Hid (Own rFile (wr.drewN nq) w0.heap.size 37 _ _ (fun _ => False)) := HO.out.drewN nq
      have HBwa : Hid (Below w0.heap.size w0 (wr.drewN nq)) := ⟨HB.out.os, HB.out.tape, HB.out.output, HB.out.size, HB.out.block⟩
      generalize wr.drewN nq = wa at *
      clear nq
      have HQwa : Hid (wa.heap[w.heap.size]? = some (.cells #[.string f.path, .bool f.dir, .string f.data] 37 (0, 0))) := (HBwa.out.block _ (by rw [HZ0.out]; omega)).trans HQ0.out
      have HDwa : Hid (wa.heap[d]? = some (.cells #[.slice (some ⟨xb, xo, none⟩) n c, rv, zv] 51 (0, 0))) := (HBwa.out.block _ (by rw [HZ0.out]; omega)).trans HD0.out
      have q0 : wa.cell? ⟨w.heap.size, 0, none⟩ = some (.string f.path) := cell_of_row wa _ 0 _ _ _ HQwa.out
      have q1 : wa.cell? ⟨w.heap.size, 1, none⟩ = some (.bool f.dir) := cell_of_row wa _ 1 _ _ _ HQwa.out
      have q2 : wa.cell? ⟨w.heap.size, 2, none⟩ = some (.string f.data) := cell_of_row wa _ 2 _ _ _ HQwa.out
      have d0 : wa.cell? ⟨d, 0, none⟩ = some (.slice (some ⟨xb, xo, none⟩) n c) := cell_of_row wa d 0 _ _ _ HDwa.out
      obtain ⟨c0, c1, c2⟩ := HC.out wa HBwa.out
      have hzwa := HBwa.out.size
      clear HO HB HQr HDr
      go_wp2_with fail
      go_quiet (fail)
      have HOwb : Hid (Own rFile (wa.drewN nq) w0.heap.size 37 _ _ (fun _ => False)) := HOwa.out.drewN nq
      have HBwb : Hid (Below w0.heap.size w0 (wa.drewN nq)) := ⟨HBwa.out.os, HBwa.out.tape, HBwa.out.output, HBwa.out.size, HBwa.out.block⟩
      generalize wa.drewN nq = wb at *
      clear nq
      clear q0 q1 q2 d0 c0 c1 c2
      have HQwb : Hid (wb.heap[w.heap.size]? = some (.cells #[.string f.path, .bool f.dir, .string f.data] 37 (0, 0))) := (HBwb.out.block _ (by rw [HZ0.out]; omega)).trans HQ0.out
      have HDwb : Hid (wb.heap[d]? = some (.cells #[.slice (some ⟨xb, xo, none⟩) n c, rv, zv] 51 (0, 0))) := (HBwb.out.block _ (by rw [HZ0.out]; omega)).trans HD0.out
      have q0 : wb.cell? ⟨w.heap.size, 0, none⟩ = some (.string f.path) := cell_of_row wb _ 0 _ _ _ HQwb.out
      have q1 : wb.cell? ⟨w.heap.size, 1, none⟩ = some (.bool f.dir) := cell_of_row wb _ 1 _ _ _ HQwb.out
      have q2 : wb.cell? ⟨w.heap.size, 2, none⟩ = some (.string f.data) := cell_of_row wb _ 2 _ _ _ HQwb.out
      have d0 : wb.cell? ⟨d, 0, none⟩ = some (.slice (some ⟨xb, xo, none⟩) n c) := cell_of_row wb d 0 _ _ _ HDwb.out
      obtain ⟨c0, c1, c2⟩ := HC.out wb HBwb.out
      have hzwb := HBwb.out.size
      go_wp2_with (at_builtin; refine wpList_push (by rfl) _ _ _ (by rfl) elt_file Tryz.underlying22 (by rfl) (HOwb.out.alloc _) ⟨wb.heap.size, 0, none⟩ 1 [.string x.path, .bool x.dir, .string x.data] x (by rfl) (Hxh.out _) (news_of wb #[.string x.path, .bool x.dir, .string x.data] _) (by unfold maxLen; omega) (by omega) (by simp; omega) (wb.heap.size + 1) (by simp) ?_)
      intro g7 cap7 w7 hown7 hgrow7 hat7 hg7
      have HB7 := Lib.hid (bgrown (bal HBwb.out _) hgrow7 (HOwb.out.alloc _) (Nat.le_refl _))
      have HO7 := Lib.hid hown7
      have hz7 := HB7.out.size
      clear hown7 hgrow7 hat7 hg7
      rw [show acc.length + 1 = (acc ++ [x]).length from by rw [List.length_append, List.length_singleton]] at HO7
      rw [show acc.length + 1 = (acc ++ [x]).length from by rw [List.length_append, List.length_singleton]]
      go_wp2_with fail
      go_roundw
      case rel => exact ⟨k + 1, _, false, by omega, rfl, by go_num, Hs, by unfold Hid; first | omega | (rw [List.length_append, List.length_singleton]; omega), HO7, HB7⟩
      case measure => simp [intOf]; omega
    · have Hs : Hid (R = acc ++ putG geP f (M.drop (k + 1)) true) := by unfold Hid; rw [Hst.out, hge.out, if_pos hp]; simp
      have hb := beq_true hp
      clear Hst hge hp Hlen HR
      go_wp2_with fail
      go_quiet (fail)
      have HOwa : Hid (Own rFile (wr.drewN nq) w0.heap.size 37 _ _ (fun _ => False)) := HO.out.drewN nq
      have HBwa : Hid (Below w0.heap.size w0 (wr.drewN nq)) := ⟨HB.out.os, HB.out.tape, HB.out.output, HB.out.size, HB.out.block⟩
      generalize wr.drewN nq = wa at *
      clear nq
      have HQwa : Hid (wa.heap[w.heap.size]? = some (.cells #[.string f.path, .bool f.dir, .string f.data] 37 (0, 0))) := (HBwa.out.block _ (by rw [HZ0.out]; omega)).trans HQ0.out
      have HDwa : Hid (wa.heap[d]? = some (.cells #[.slice (some ⟨xb, xo, none⟩) n c, rv, zv] 51 (0, 0))) := (HBwa.out.block _ (by rw [HZ0.out]; omega)).trans HD0.out
      have q0 : wa.cell? ⟨w.heap.size, 0, none⟩ = some (.string f.path) := cell_of_row wa _ 0 _ _ _ HQwa.out
      have q1 : wa.cell? ⟨w.heap.size, 1, none⟩ = some (.bool f.dir) := cell_of_row wa _ 1 _ _ _ HQwa.out
      have q2 : wa.cell? ⟨w.heap.size, 2, none⟩ = some (.string f.data) := cell_of_row wa _ 2 _ _ _ HQwa.out
      have d0 : wa.cell? ⟨d, 0, none⟩ = some (.slice (some ⟨xb, xo, none⟩) n c) := cell_of_row wa d 0 _ _ _ HDwa.out
      obtain ⟨c0, c1, c2⟩ := HC.out wa HBwa.out
      have hzwa := HBwa.out.size
      clear HO HB HQr HDr
      go_wp2_with fail
      go_quiet (fail)
      have HOwb : Hid (Own rFile (wa.drewN nq) w0.heap.size 37 _ _ (fun _ => False)) := HOwa.out.drewN nq
      have HBwb : Hid (Below w0.heap.size w0 (wa.drewN nq)) := ⟨HBwa.out.os, HBwa.out.tape, HBwa.out.output, HBwa.out.size, HBwa.out.block⟩
      generalize wa.drewN nq = wb at *
      clear nq
      clear q0 q1 q2 d0 c0 c1 c2
      have HQwb : Hid (wb.heap[w.heap.size]? = some (.cells #[.string f.path, .bool f.dir, .string f.data] 37 (0, 0))) := (HBwb.out.block _ (by rw [HZ0.out]; omega)).trans HQ0.out
      have HDwb : Hid (wb.heap[d]? = some (.cells #[.slice (some ⟨xb, xo, none⟩) n c, rv, zv] 51 (0, 0))) := (HBwb.out.block _ (by rw [HZ0.out]; omega)).trans HD0.out
      have q0 : wb.cell? ⟨w.heap.size, 0, none⟩ = some (.string f.path) := cell_of_row wb _ 0 _ _ _ HQwb.out
      have q1 : wb.cell? ⟨w.heap.size, 1, none⟩ = some (.bool f.dir) := cell_of_row wb _ 1 _ _ _ HQwb.out
      have q2 : wb.cell? ⟨w.heap.size, 2, none⟩ = some (.string f.data) := cell_of_row wb _ 2 _ _ _ HQwb.out
      have d0 : wb.cell? ⟨d, 0, none⟩ = some (.slice (some ⟨xb, xo, none⟩) n c) := cell_of_row wb d 0 _ _ _ HDwb.out
      obtain ⟨c0, c1, c2⟩ := HC.out wb HBwb.out
      have hzwb := HBwb.out.size
      go_wp2_with fail
      go_roundw
      case rel => exact ⟨k + 1, _, true, by omega, rfl, by go_num, Hs, by unfold Hid; first | omega | (rw [List.length_append, List.length_singleton]; omega), HOwb, HBwb⟩
      case measure => simp [intOf]; omega
    · have Hs : Hid (R = (acc ++ [x]) ++ putG geP f (M.drop (k + 1)) true) := by unfold Hid; rw [Hst.out, hge.out, if_neg hp]; simp
      have hb := beq_false hp
      clear Hst hge hp Hlen HR
      go_wp2_with fail
      go_quiet (fail)
      have HOwa : Hid (Own rFile (wr.drewN nq) w0.heap.size 37 _ _ (fun _ => False)) := HO.out.drewN nq
      have HBwa : Hid (Below w0.heap.size w0 (wr.drewN nq)) := ⟨HB.out.os, HB.out.tape, HB.out.output, HB.out.size, HB.out.block⟩
      generalize wr.drewN nq = wa at *
      clear nq
      have HQwa : Hid (wa.heap[w.heap.size]? = some (.cells #[.string f.path, .bool f.dir, .string f.data] 37 (0, 0))) := (HBwa.out.block _ (by rw [HZ0.out]; omega)).trans HQ0.out
      have HDwa : Hid (wa.heap[d]? = some (.cells #[.slice (some ⟨xb, xo, none⟩) n c, rv, zv] 51 (0, 0))) := (HBwa.out.block _ (by rw [HZ0.out]; omega)).trans HD0.out
      have q0 : wa.cell? ⟨w.heap.size, 0, none⟩ = some (.string f.path) := cell_of_row wa _ 0 _ _ _ HQwa.out
      have q1 : wa.cell? ⟨w.heap.size, 1, none⟩ = some (.bool f.dir) := cell_of_row wa _ 1 _ _ _ HQwa.out
      have q2 : wa.cell? ⟨w.heap.size, 2, none⟩ = some (.string f.data) := cell_of_row wa _ 2 _ _ _ HQwa.out
      have d0 : wa.cell? ⟨d, 0, none⟩ = some (.slice (some ⟨xb, xo, none⟩) n c) := cell_of_row wa d 0 _ _ _ HDwa.out
      obtain ⟨c0, c1, c2⟩ := HC.out wa HBwa.out
      have hzwa := HBwa.out.size
      clear HO HB HQr HDr
      go_wp2_with fail
      go_quiet (fail)
      have HOwb : Hid (Own rFile (wa.drewN nq) w0.heap.size 37 _ _ (fun _ => False)) := HOwa.out.drewN nq
      have HBwb : Hid (Below w0.heap.size w0 (wa.drewN nq)) := ⟨HBwa.out.os, HBwa.out.tape, HBwa.out.output, HBwa.out.size, HBwa.out.block⟩
      generalize wa.drewN nq = wb at *
      clear nq
      clear q0 q1 q2 d0 c0 c1 c2
      have HQwb : Hid (wb.heap[w.heap.size]? = some (.cells #[.string f.path, .bool f.dir, .string f.data] 37 (0, 0))) := (HBwb.out.block _ (by rw [HZ0.out]; omega)).trans HQ0.out
      have HDwb : Hid (wb.heap[d]? = some (.cells #[.slice (some ⟨xb, xo, none⟩) n c, rv, zv] 51 (0, 0))) := (HBwb.out.block _ (by rw [HZ0.out]; omega)).trans HD0.out
      have q0 : wb.cell? ⟨w.heap.size, 0, none⟩ = some (.string f.path) := cell_of_row wb _ 0 _ _ _ HQwb.out
      have q1 : wb.cell? ⟨w.heap.size, 1, none⟩ = some (.bool f.dir) := cell_of_row wb _ 1 _ _ _ HQwb.out
      have q2 : wb.cell? ⟨w.heap.size, 2, none⟩ = some (.string f.data) := cell_of_row wb _ 2 _ _ _ HQwb.out
      have d0 : wb.cell? ⟨d, 0, none⟩ = some (.slice (some ⟨xb, xo, none⟩) n c) := cell_of_row wb d 0 _ _ _ HDwb.out
      obtain ⟨c0, c1, c2⟩ := HC.out wb HBwb.out
      have hzwb := HBwb.out.size
      go_wp2_with (at_builtin; refine wpList_push (by rfl) _ _ _ (by rfl) elt_file Tryz.underlying22 (by rfl) (HOwb.out.alloc _) ⟨wb.heap.size, 0, none⟩ 1 [.string x.path, .bool x.dir, .string x.data] x (by rfl) (Hxh.out _) (news_of wb #[.string x.path, .bool x.dir, .string x.data] _) (by unfold maxLen; omega) (by omega) (by simp; omega) (wb.heap.size + 1) (by simp) ?_)
      intro g7 cap7 w7 hown7 hgrow7 hat7 hg7
      have HB7 := Lib.hid (bgrown (bal HBwb.out _) hgrow7 (HOwb.out.alloc _) (Nat.le_refl _))
      have HO7 := Lib.hid hown7
      have hz7 := HB7.out.size
      clear hown7 hgrow7 hat7 hg7
      rw [show acc.length + 1 = (acc ++ [x]).length from by rw [List.length_append, List.length_singleton]] at HO7
      rw [show acc.length + 1 = (acc ++ [x]).length from by rw [List.length_append, List.length_singleton]]
      go_wp2_with fail
      go_roundw
      case rel => exact ⟨k + 1, _, true, by omega, rfl, by go_num, Hs, by unfold Hid; first | omega | (rw [List.length_append, List.length_singleton]; omega), HO7, HB7⟩
      case measure => simp [intOf]; omega
end Go.Proofs.YtkpbpnecmfadlaaGreatDoor
