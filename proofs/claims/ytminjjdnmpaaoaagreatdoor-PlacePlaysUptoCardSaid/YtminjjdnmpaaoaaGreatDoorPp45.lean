/-
  The placer's laws: one small graph is placed: plain.
  The placer's laws: one small graph is placed: walked.
  Manifests as data, and opened. (Printed by gen_data.py.)
  A world of the placer's laws as data, opened; lists of packages, opened.
-/
import Derived.Test.YtminjjdnmpaaoaaGreatDoorPp19
import Derived.Test.YtminjjdnmpaaoaaGreatDoorPp21
import Derived.Test.YtminjjdnmpaaoaaGreatDoorPp41
import Derived.Test.YtminjjdnmpaaoaaGreatDoorPp44
import Derived.Test.YtminjjdnmpaaoaaGreatDoorPp02
import Derived.KernelRfl
import Derived.Test.YtminjjdnmpaaoaaGreatDoorPp01
import Derived.Test.YtminjjdnmpaaoaaGreatDoorPp25
set_option autoImplicit false
set_option maxRecDepth 100000
set_option linter.unusedVariables false
set_option linter.unusedSimpArgs false
namespace Go.Proofs.YtminjjdnmpaaoaaGreatDoor
open Go

theorem eqB_dec {α : Type} [DecidableEq α] (x y : α) : eqB x y = decide (x = y) := by
  by_cases h : x = y
  · rw [eqB_true h, decide_eq_true h]
  · rw [eqB_false h, decide_eq_false h]
deriving instance DecidableEq for Ver, Spn, Dep, Pack, Pin, Edge, Node, Dir
def sA : ByteArray := ⟨#[97]⟩
def sB : ByteArray := ⟨#[98]⟩
def packL (s : ByteArray) (v : Int) : Pack := ⟨s, ⟨v, 0, 0⟩, [], [], []⟩
def gL : List Node := [⟨⟨#[]⟩, ⟨0, 0, 0⟩, [], [⟨sA, 1⟩, ⟨sB, 2⟩]⟩, ⟨sA, ⟨1, 0, 0⟩, [], [⟨sB, 3⟩]⟩, ⟨sB, ⟨1, 0, 0⟩, [], []⟩, ⟨sB, ⟨2, 0, 0⟩, [], []⟩]
def psL : List Pack := [zeroPack, packL sA 1, packL sB 1, packL sB 2]
def qL : PlIn := ⟨gL, psL, 9, 99, none⟩
/-- the directories of the small graph as they are put -/
def tL : List Dir := [dirZ0, ⟨[sA], packL sA 1, 1⟩, ⟨[sB], packL sB 1, 2⟩, ⟨[sA, sB], packL sB 2, 3⟩]
theorem findI_dec (t : List Dir) (p : List ByteArray) : findI t p = firstI (fun d => decide (d.path = p)) t := by
  unfold findI; simp only [eqB_dec]
theorem name_a : nameB ⟨#[97]⟩ = true := by decide
theorem name_b : nameB ⟨#[98]⟩ = true := by decide
theorem text_a : (textB [⟨#[97]⟩]).size = 10 := by decide
theorem text_b : (textB [⟨#[98]⟩]).size = 10 := by decide
theorem text_ab : (textB [⟨#[97]⟩, ⟨#[98]⟩]).size = 20 := by decide
theorem lives_dir0 : dirP qL 0 ([dirZ0], []) = .ok ([dirZ0, ⟨[sA], packL sA 1, 1⟩, ⟨[sB], packL sB 1, 2⟩], [⟨0, sA, 1⟩, ⟨0, sB, 2⟩]) := by
  simp [dirP, kindsGo, kindGo, kindP, stepE, rightP, homeP, spotI, spotGo, putP, lookI, lookDown, findI_dec, firstI, firstGo, qL, gL, psL, nodeAt, packAt, dirAt, pathAt, dirZ0, pickI, turnsB, turnOne, underP, eqB_dec, likedB, sA, sB, packL, name_a, name_b, text_a, text_b, text_ab]
theorem lives_dir1 : dirP qL 1 ([dirZ0, ⟨[sA], packL sA 1, 1⟩, ⟨[sB], packL sB 1, 2⟩], [⟨0, sA, 1⟩, ⟨0, sB, 2⟩]) = .ok (tL, [⟨0, sA, 1⟩, ⟨0, sB, 2⟩, ⟨1, sB, 3⟩]) := by
  simp [dirP, kindsGo, kindGo, kindP, stepE, rightP, homeP, spotI, spotGo, putP, lookI, lookDown, findI_dec, firstI, firstGo, qL, gL, psL, nodeAt, packAt, dirAt, pathAt, dirZ0, pickI, turnsB, turnOne, underP, eqB_dec, likedB, sA, sB, packL, tL, name_a, name_b, text_a, text_b, text_ab]
def setL : List Stl := [⟨0, sA, 1⟩, ⟨0, sB, 2⟩, ⟨1, sB, 3⟩]
theorem lives_dir2 : dirP qL 2 (tL, setL) = .ok (tL, setL) := by
  simp [dirP, kindsGo, kindGo, kindP, stepE, rightP, homeP, spotI, spotGo, putP, lookI, lookDown, findI_dec, firstI, firstGo, qL, gL, psL, nodeAt, packAt, dirAt, pathAt, dirZ0, pickI, turnsB, turnOne, underP, eqB_dec, likedB, sA, sB, packL, tL, name_a, name_b, text_a, text_b, text_ab, setL]
theorem lives_dir3 : dirP qL 3 (tL, setL) = .ok (tL, setL) := by
  simp [dirP, kindsGo, kindGo, kindP, stepE, rightP, homeP, spotI, spotGo, putP, lookI, lookDown, findI_dec, firstI, firstGo, qL, gL, psL, nodeAt, packAt, dirAt, pathAt, dirZ0, pickI, turnsB, turnOne, underP, eqB_dec, likedB, sA, sB, packL, tL, name_a, name_b, text_a, text_b, text_ab, setL]
theorem nodup_none : nodupB [] = true := nodupB_true List.nodup_nil
theorem pack_lives : packB (packL sA 1) = true ∧ packB (packL sB 1) = true ∧ packB (packL sB 2) = true := by
  have h0 : ∀ (s : ByteArray) (v : Int), nodupB (allNames [(packL s v).deps, (packL s v).peers, (packL s v).opts]) = true := fun s v => nodup_none
  refine ⟨?_, ?_, ?_⟩
  all_goals
    unfold packB
    rw [h0]
    decide +kernel
theorem behind_a : behind none ⟨#[97]⟩ = true := by decide +kernel
theorem behind_b : behind none ⟨#[98]⟩ = true := by decide +kernel
theorem behind_ab : behind (some ⟨#[97]⟩) ⟨#[98]⟩ = true := by decide +kernel
theorem may_lives : mayPl gL psL = true := by
  obtain ⟨h1, h2, h3⟩ := pack_lives
  simp only [sA, sB, packL] at h1 h2 h3
  simp [mayPl, gL, psL, formGo, formP, headP, rootOk, packOk, h1, h2, h3, eqB_dec, edgeP, pinP, sA, sB, packL, zeroV, zeroPack, risesGo, pinNames, edgeNames, name_a, name_b, behind_a, behind_b, behind_ab]
theorem place_lives : placeE qL = .ok (tL, setL) := by
  have h : placeE qL = dirsP qL 258 0 ([dirZ0], []) := by
    unfold placeE
    rw [if_neg (by decide), if_neg (by decide), if_neg (by show ¬ mayPl gL psL = false; rw [may_lives]; decide)]
  rw [h]
  rw [dirsP_step (f := 257) (by decide), lives_dir0]
  show dirsP qL 257 1 _ = _
  rw [dirsP_step (f := 256) (by decide), lives_dir1]
  show dirsP qL 256 2 (tL, setL) = _
  rw [dirsP_step (f := 255) (by decide), lives_dir2]
  show dirsP qL 255 3 (tL, setL) = _
  rw [dirsP_step (f := 254) (by decide), lives_dir3]
  show dirsP qL 254 4 (tL, setL) = _
  rw [dirsP_done (by decide)]
theorem sort_lives : sortD tL = [dirZ0, ⟨[sA], packL sA 1, 1⟩, ⟨[sA, sB], packL sB 2, 3⟩, ⟨[sB], packL sB 1, 2⟩] := by
  decide +kernel
theorem find_lives : findI (sortD tL) [sA, sB] = 2 := by
  rw [sort_lives, findI_dec]
  decide +kernel
end Go.Proofs.YtminjjdnmpaaoaaGreatDoor
set_option autoImplicit false
set_option relaxedAutoImplicit false
set_option linter.unusedVariables false
set_option linter.unusedSimpArgs false
namespace Go.Proofs.YtminjjdnmpaaoaaGreatDoor
open Go.Rows Go.RowKit Go.Shelf Go.Sort

def oV (v : Int) : Obj := .cells #[.int .i64 v, .int .i64 0, .int .i64 0] 50
def oE2 : Obj := .cells #[.string ⟨#[97]⟩, .int .i64 1, .string ⟨#[98]⟩, .int .i64 2] 61
def oE1 : Obj := .cells #[.string ⟨#[98]⟩, .int .i64 3] 61
def oN (b : Nat) : Obj := .cells #[.string ⟨#[]⟩, .int .i64 0, .int .i64 0, .int .i64 0, .slice none 0 0, .slice (some ⟨b + 1 + 1, 0, none⟩) 2 2, .string ⟨#[97]⟩, .int .i64 1, .int .i64 0, .int .i64 0, .slice none 0 0, .slice (some ⟨b + 1 + 1 + 1, 0, none⟩) 1 1, .string ⟨#[98]⟩, .int .i64 1, .int .i64 0, .int .i64 0, .slice none 0 0, .slice none 0 0, .string ⟨#[98]⟩, .int .i64 2, .int .i64 0, .int .i64 0, .slice none 0 0, .slice none 0 0] 58
def oG (b : Nat) : Obj := .cells #[.slice (some ⟨b + 1 + 1 + 1 + 1, 0, none⟩) 4 4] 24
def oP : Obj := .cells #[.string ⟨#[]⟩, .int .i64 0, .int .i64 0, .int .i64 0, .slice none 0 0, .slice none 0 0, .slice none 0 0, .string ⟨#[97]⟩, .int .i64 1, .int .i64 0, .int .i64 0, .slice none 0 0, .slice none 0 0, .slice none 0 0, .string ⟨#[98]⟩, .int .i64 1, .int .i64 0, .int .i64 0, .slice none 0 0, .slice none 0 0, .slice none 0 0, .string ⟨#[98]⟩, .int .i64 2, .int .i64 0, .int .i64 0, .slice none 0 0, .slice none 0 0, .slice none 0 0] 52
/-- the world that lives makes -/
def wL (w : World) : World := ((((((w.alloc (oV 1)).alloc (oV 2)).alloc oE2).alloc oE1).alloc (oN w.heap.size)).alloc (oG w.heap.size)).alloc oP
theorem wL_below (w : World) : Below w.heap.size w (wL w) := bal (bal (bal (bal (bal (bal (bal (Below.refl _ _) _) _) _) _) _) _) _
theorem wL_rows (w : World) : (wL w).heap[w.heap.size + 1 + 1]? = some oE2 ∧ (wL w).heap[w.heap.size + 1 + 1 + 1]? = some oE1 ∧ (wL w).heap[w.heap.size + 1 + 1 + 1 + 1]? = some (oN w.heap.size) ∧ (wL w).heap[w.heap.size + 1 + 1 + 1 + 1 + 1]? = some (oG w.heap.size) ∧ (wL w).heap[w.heap.size + 1 + 1 + 1 + 1 + 1 + 1]? = some oP := by
  have hs : ∀ (W : World) (o : Obj), (W.alloc o).heap = W.heap.push o := fun W o => rfl
  unfold wL
  simp only [hs, Array.getElem?_push, Array.size_push]
  refine ⟨?_, ?_, ?_, ?_, ?_⟩ <;> simp <;> omega
theorem wL_graph (w : World) : SlV rNode (wL w) (fun _ => True) gL (.slice (some ⟨w.heap.size + 1 + 1 + 1 + 1, 0, none⟩) 4 4) := by
  obtain ⟨h2, h3, h4, _, _⟩ := wL_rows w
  have e2 : SlV rEdge (wL w) (fun _ => True) [⟨sA, 1⟩, ⟨sB, 2⟩] (.slice (some ⟨w.heap.size + 1 + 1, 0, none⟩) 2 2) :=
    SlV.of_block (r := rEdge) (S := fun _ => True) (l := [⟨sA, 1⟩, ⟨sB, 2⟩]) h2 (⟨[.string ⟨#[97]⟩, .int .i64 1], _, rfl, ⟨rfl, by decide, by unfold I64; decide⟩, [.string ⟨#[98]⟩, .int .i64 2], _, rfl, ⟨rfl, by decide, by unfold I64; decide⟩, rfl⟩) trivial rfl (by decide) (by decide)
  have e1 : SlV rEdge (wL w) (fun _ => True) [⟨sB, 3⟩] (.slice (some ⟨w.heap.size + 1 + 1 + 1, 0, none⟩) 1 1) :=
    SlV.of_block (r := rEdge) (S := fun _ => True) (l := [⟨sB, 3⟩]) h3 (⟨[.string ⟨#[98]⟩, .int .i64 3], _, rfl, ⟨rfl, by decide, by unfold I64; decide⟩, rfl⟩) trivial rfl (by decide) (by decide)
  exact SlV.of_block (r := rNode) (S := fun _ => True) (l := gL) h4 (⟨[.string ⟨#[]⟩, .int .i64 0, .int .i64 0, .int .i64 0, .slice none 0 0, .slice (some ⟨w.heap.size + 1 + 1, 0, none⟩) 2 2], _, rfl, ⟨_, _, rfl, by decide, by unfold I64; decide, by unfold I64; decide, by unfold I64; decide, SlV.nil_ _ _ _, e2⟩, [.string ⟨#[97]⟩, .int .i64 1, .int .i64 0, .int .i64 0, .slice none 0 0, .slice (some ⟨w.heap.size + 1 + 1 + 1, 0, none⟩) 1 1], _, rfl, ⟨_, _, rfl, by decide, by unfold I64; decide, by unfold I64; decide, by unfold I64; decide, SlV.nil_ _ _ _, e1⟩, [.string ⟨#[98]⟩, .int .i64 1, .int .i64 0, .int .i64 0, .slice none 0 0, .slice none 0 0], _, rfl, ⟨_, _, rfl, by decide, by unfold I64; decide, by unfold I64; decide, by unfold I64; decide, SlV.nil_ _ _ _, SlV.nil_ _ _ _⟩, [.string ⟨#[98]⟩, .int .i64 2, .int .i64 0, .int .i64 0, .slice none 0 0, .slice none 0 0], _, rfl, ⟨_, _, rfl, by decide, by unfold I64; decide, by unfold I64; decide, by unfold I64; decide, SlV.nil_ _ _ _, SlV.nil_ _ _ _⟩, rfl⟩) trivial rfl (by decide) (by decide)
theorem wL_packs (w : World) : SlV rPack (wL w) (fun _ => True) psL (.slice (some ⟨w.heap.size + 1 + 1 + 1 + 1 + 1 + 1, 0, none⟩) 4 4) := by
  obtain ⟨_, _, _, _, h5⟩ := wL_rows w
  exact SlV.of_block (r := rPack) (S := fun _ => True) (l := psL) h5 (⟨[.string ⟨#[]⟩, .int .i64 0, .int .i64 0, .int .i64 0, .slice none 0 0, .slice none 0 0, .slice none 0 0], _, rfl, ⟨_, _, _, rfl, by decide, by unfold I64; decide, by unfold I64; decide, by unfold I64; decide, SlV.nil_ _ _ _, SlV.nil_ _ _ _, SlV.nil_ _ _ _⟩, [.string ⟨#[97]⟩, .int .i64 1, .int .i64 0, .int .i64 0, .slice none 0 0, .slice none 0 0, .slice none 0 0], _, rfl, ⟨_, _, _, rfl, by decide, by unfold I64; decide, by unfold I64; decide, by unfold I64; decide, SlV.nil_ _ _ _, SlV.nil_ _ _ _, SlV.nil_ _ _ _⟩, [.string ⟨#[98]⟩, .int .i64 1, .int .i64 0, .int .i64 0, .slice none 0 0, .slice none 0 0, .slice none 0 0], _, rfl, ⟨_, _, _, rfl, by decide, by unfold I64; decide, by unfold I64; decide, by unfold I64; decide, SlV.nil_ _ _ _, SlV.nil_ _ _ _, SlV.nil_ _ _ _⟩, [.string ⟨#[98]⟩, .int .i64 2, .int .i64 0, .int .i64 0, .slice none 0 0, .slice none 0 0, .slice none 0 0], _, rfl, ⟨_, _, _, rfl, by decide, by unfold I64; decide, by unfold I64; decide, by unfold I64; decide, SlV.nil_ _ _ _, SlV.nil_ _ _ _, SlV.nil_ _ _ _⟩, rfl⟩) trivial rfl (by decide) (by decide)
set_option maxHeartbeats 3200000 in
set_option maxRecDepth 100000 in
theorem lives_any (w : World) (ht : Tab w) :
    Calls Tryz.prog 15 #[] w fun e w' => e = .returned (.bool true) ∧ Below w.heap.size w w' := by
  have HB := Lib.hid (wL_below w)
  have g0 : (wL w).cell? ⟨w.heap.size + 1 + 1 + 1 + 1 + 1, 0, none⟩ = some (.slice (some ⟨w.heap.size + 1 + 1 + 1 + 1, 0, none⟩) 4 4) := cell_of_row _ _ 0 _ _ _ (wL_rows w).2.2.2.1
  have HR : Hid (Calls Tryz.prog 11 #[.agg #[.slice (some ⟨w.heap.size + 1 + 1 + 1 + 1, 0, none⟩) 4 4], .slice (some ⟨w.heap.size + 1 + 1 + 1 + 1 + 1 + 1, 0, none⟩) 4 4, .agg #[.int .i64 0, .int .i64 0, .int .i64 9, .int .i64 99], .pointer none] (wL w) fun e w' =>
      ∃ vA vc, e = .returned (.tuple #[.agg #[.slice vA 4 vc], .int .i64 0]) ∧ SlV rDir w' (fun b => (wL w).heap.size ≤ b) (sortD tL) (.slice vA 4 vc) ∧ Below (wL w).heap.size (wL w) w') := by
    refine (placeRun_any _ 4 4 _ 4 4 0 0 (.pointer none) qL (wL w) (fun _ => True) (tab_below ht (wL_below w)) (wL_graph w) (wL_packs w) (.inl ⟨rfl, rfl⟩) (by unfold I64 qL; decide) (by unfold I64 qL; decide) (by decide) (by decide) (fun x hx => by
      have : x.deps = [] ∧ x.peers = [] ∧ x.opts = [] := by
        simp only [qL, psL, List.mem_cons, List.mem_nil_iff, or_false] at hx
        rcases hx with rfl | rfl | rfl | rfl <;> exact ⟨rfl, rfl, rfl⟩
      unfold SmallP
      rw [this.1, this.2.1, this.2.2]
      unfold SmallDs
      simp)).mono ?_
    rintro e w' ⟨rv, rfl, h2, h3⟩
    have e1 : placeR qL = (sortD tL, 0) := placeR_ok place_lives
    rw [e1] at h2 ⊢
    obtain ⟨vA, vc, rfl, _, _⟩ := h2.val
    have e2 : (sortD tL).length = 4 := by rw [sort_lives]; rfl
    rw [e2] at h2 ⊢
    exact ⟨vA, vc, rfl, h2, h3⟩
  go_enter Tryz.func15, Tryz.ntmps15
  go_upto_region 5 with (fail)
  change Code.wp _ _ _ _ (wL w)
  generalize wL w = w7 at *
  go_wp2_with fail
  refine HR.out.mono ?_
  rintro e w8 ⟨vA, vc, rfl, h8, b8⟩
  have H8 := Lib.hid h8
  have HB8 := Lib.hid (bot HB.out b8)
  clear h8 b8 HR g0
  have hi2 : (sortD tL)[2]? = some ⟨[sA, sB], packL sB 2, 3⟩ := by rw [sort_lives]; rfl
  have hi3 : (sortD tL)[3]? = some ⟨[sB], packL sB 1, 2⟩ := by rw [sort_lives]; rfl
  obtain ⟨b, o, cs, hA, _, hb, hh, hcell⟩ := H8.out.elem hi2
  obtain ⟨s0, s1, s2, s3, rfl, _⟩ := hh
  have n2 := hcell 8 _ rfl
  obtain ⟨b', o', cs', hA', _, hb', hh', hcell'⟩ := H8.out.elem hi3
  obtain ⟨s0', s1', s2', s3', rfl, _⟩ := hh'
  have n3 := hcell' 8 _ rfl
  rw [hA] at hA'
  injection hA' with hA'
  injection hA' with e1 e2 _
  subst e1 e2
  simp only [rDir] at n2 n3
  subst hA
  clear hcell hcell' hi2 hi3
  go_upto_region 6 with (fail)
  obtain ⟨w9, hw9⟩ : ∃ w9, w9 = w8.alloc (.cells #[.slice (some ⟨b, o, none⟩) 4 vc] 33) := ⟨_, rfl⟩
  have HB9 : Hid (Below w8.heap.size w8 w9) := by unfold Hid; rw [hw9]; exact bal (Below.refl _ _) _
  have hq9 : w9.heap[w8.heap.size]? = some (.cells #[.slice (some ⟨b, o, none⟩) 4 vc] 33 (0, 0)) := by rw [hw9]; exact heap_new _ _
  rw [← hw9]
  have c0 := cell_of_row _ _ 0 _ _ _ hq9
  have hz9 := (Array.getElem?_eq_some_iff.1 hq9).1
  have m2 := below_cell HB9.out n2 hb
  have m3 := below_cell HB9.out n3 hb
  clear hw9 hq9 n2 n3
  have Hf : Hid (Calls Tryz.prog 18 #[.agg #[.slice (some ⟨b, o, none⟩) 4 vc], .slice (some ⟨w9.heap.size, 0, none⟩) 2 2] (w9.alloc (.cells #[.string ⟨#[97]⟩, .string ⟨#[98]⟩] 9)) fun e w' => e = .returned (.int .i64 2) ∧ Below (w9.alloc (.cells #[.string ⟨#[97]⟩, .string ⟨#[98]⟩] 9)).heap.size (w9.alloc (.cells #[.string ⟨#[97]⟩, .string ⟨#[98]⟩] 9)) w') := by
    have h := find_any _ _ 4 vc 2 2 (sortD tL) [sA, sB] (w9.alloc (.cells #[.string ⟨#[97]⟩, .string ⟨#[98]⟩] 9)) _ (fun _ => True) (H8.out.belowSize (bal HB9.out _)) (SlV.of_block (r := rStr) (S := fun _ => True) (l := [sA, sB]) (heap_new w9 _) (⟨[.string ⟨#[97]⟩], _, rfl, ⟨rfl, by decide⟩, [.string ⟨#[98]⟩], _, rfl, ⟨rfl, by decide⟩, rfl⟩) trivial rfl (by decide) (by decide))
    rw [find_lives] at h
    exact h
  go_wp2_with fail
  refine Hf.out.mono ?_
  rintro e w10 ⟨rfl, b10⟩
  have HB10 := Lib.hid (bot (bal HB9.out _) b10)
  have HBz := Lib.hid (bot (bal (Below.refl w9.heap.size w9) _) b10)
  have p2 := below_cell (bot (bal (Below.refl w9.heap.size w9) _) b10) m2 (Nat.lt_of_lt_of_le hb HB9.out.size)
  have p3 := below_cell (bot (bal (Below.refl w9.heap.size w9) _) b10) m3 (Nat.lt_of_lt_of_le hb HB9.out.size)
  have q0 := below_cell (bot (bal (Below.refl w9.heap.size w9) _) b10) c0 hz9
  clear b10 Hf
  go_wp2_with fail
  go_ret
  exact ⟨rfl, bot HB8.out HB10.out⟩
end Go.Proofs.YtminjjdnmpaaoaaGreatDoor
namespace Go.Proofs.YtminjjdnmpaaoaaGreatDoor
open Go.ChangeShapes Go.WideShapes Go.ChangeAt Go.RowKit
set_option linter.unusedVariables false
set_option linter.unusedSimpArgs false

structure Mani where
  deps : List Dep
  dev : List Dep
  opts : List Dep
  over : List Dep
def rMani : Rp Mani where
  size := 4
  holds := fun w S x cs => ∃ s0 s1 s2 s3, cs = [s0, s1, s2, s3] ∧ SlV rDep w S x.deps s0 ∧ SlV rDep w S x.dev s1 ∧ SlV rDep w S x.opts s2 ∧ SlV rDep w S x.over s3
  len := fun ⟨s0, s1, s2, s3, h, c0, c1, c2, c3⟩ => by rw [h]; rfl
  one := fun ⟨s0, s1, s2, s3, h, c0, c1, c2, c3⟩ => by obtain ⟨_, _, rfl, _⟩ := c0.val; obtain ⟨_, _, rfl, _⟩ := c1.val; obtain ⟨_, _, rfl, _⟩ := c2.val; obtain ⟨_, _, rfl, _⟩ := c3.val; rw [h]; simp [Value.oneCell']
  mono := fun ⟨s0, s1, s2, s3, h, c0, c1, c2, c3⟩ hk => ⟨s0, s1, s2, s3, h, (rSlice rDep).mono c0 hk, (rSlice rDep).mono c1 hk, (rSlice rDep).mono c2 hk, (rSlice rDep).mono c3 hk⟩

def bkMani (x : Mani) : Nat := 1 + bkL bkDep x.deps + bkL bkDep x.dev + bkL bkDep x.opts + bkL bkDep x.over
set_option maxRecDepth 100000 in
theorem opensB_Mani : OpensB Tryz.prog 28 rMani bkMani := by
  intro H enc w base fuel cs x h
  obtain ⟨xs, n, rfl, rfl, hlen, hxl, hf⟩ := DataW.trod_struct Tryz.underlying28 h
  rw [show Tryz.prog.cellsOf 28 = 4 from by kernel_rfl] at hlen
  match cs, hlen with
  | [c0, c1, c2, c3], _ =>
    have k0 : Tryz.prog.cellsOf 26 = 1 := by kernel_rfl
    have f0 := hf 0 _ rfl
    have f1 := hf 1 _ rfl
    have f2 := hf 2 _ rfl
    have f3 := hf 3 _ rfl
    match xs, hxl with
    | [x0, x1, x2, x3], _ =>
      simp [k0] at f0 f1 f2 f3
      obtain ⟨y0, g0, b0⟩ := opensB_slice (e := 68) Tryz.underlying26 (r := rDep) (by kernel_rfl) (by decide) opensB_Dep H enc w base n [c0] x0 f0
      obtain ⟨y1, g1, b1⟩ := opensB_slice (e := 68) Tryz.underlying26 (r := rDep) (by kernel_rfl) (by decide) opensB_Dep H enc w base n [c1] x1 f1
      obtain ⟨y2, g2, b2⟩ := opensB_slice (e := 68) Tryz.underlying26 (r := rDep) (by kernel_rfl) (by decide) opensB_Dep H enc w base n [c2] x2 f2
      obtain ⟨y3, g3, b3⟩ := opensB_slice (e := 68) Tryz.underlying26 (r := rDep) (by kernel_rfl) (by decide) opensB_Dep H enc w base n [c3] x3 f3
      refine ⟨⟨y0, y1, y2, y3⟩, ⟨_, _, _, _, rfl, g0, g1, g2, g3⟩, ?_⟩
      simp only [bkMani, Rows.uptoBulk, Rows.uptoBulkAll, List.map_cons, List.map_nil] at *
      omega
end Go.Proofs.YtminjjdnmpaaoaaGreatDoor
namespace Go.Proofs.YtminjjdnmpaaoaaGreatDoor
open Go.ChangeShapes Go.WideShapes Go.ChangeAt Go.RowKit
set_option linter.unusedVariables false
set_option linter.unusedSimpArgs false

structure Lim where
  dec : Int
  nod : Int
  dirs : Int
  path : Int
def rLim : Rp Lim where
  size := 4
  holds := fun w S x cs => cs = [.int .i64 x.dec, .int .i64 x.nod, .int .i64 x.dirs, .int .i64 x.path] ∧ I64 x.dec ∧ I64 x.nod ∧ I64 x.dirs ∧ I64 x.path
  len := fun ⟨h, _⟩ => by rw [h]; rfl
  one := fun ⟨h, _⟩ => by rw [h]; simp [Value.oneCell']
  mono := fun h hk => h
set_option maxRecDepth 100000 in
theorem opensB_Lim : OpensB Tryz.prog 30 rLim (fun _ => 1) := by
  intro H enc w base fuel cs x h
  obtain ⟨xs, n, rfl, rfl, hlen, hxl, hf⟩ := DataW.trod_struct Tryz.underlying30 h
  rw [show Tryz.prog.cellsOf 30 = 4 from by kernel_rfl] at hlen
  match cs, hlen with
  | [c0, c1, c2, c3], _ =>
    have k0 : Tryz.prog.cellsOf 3 = 1 := by kernel_rfl
    have f0 := hf 0 _ rfl
    have f1 := hf 1 _ rfl
    have f2 := hf 2 _ rfl
    have f3 := hf 3 _ rfl
    match xs, hxl with
    | [x0, x1, x2, x3], _ =>
      simp [k0] at f0 f1 f2 f3
      obtain ⟨y0, ⟨h0, i0⟩, b0⟩ := opensB_int Tryz.underlying3 H enc w base n [c0] x0 f0
      obtain ⟨y1, ⟨h1, i1⟩, b1⟩ := opensB_int Tryz.underlying3 H enc w base n [c1] x1 f1
      obtain ⟨y2, ⟨h2, i2⟩, b2⟩ := opensB_int Tryz.underlying3 H enc w base n [c2] x2 f2
      obtain ⟨y3, ⟨h3, i3⟩, b3⟩ := opensB_int Tryz.underlying3 H enc w base n [c3] x3 f3
      simp only [List.cons.injEq, and_true] at h0 h1 h2 h3
      subst h0 h1 h2 h3
      exact ⟨⟨y0, y1, y2, y3⟩, ⟨rfl, i0, i1, i2, i3⟩, bulk_pos _⟩

structure Wd where
  packs : List Pack
  man : Mani
  dev : Bool
  lim : Lim
  old : List Dir
  like : Bool
/-- a world's value -/
def WdV (w : World) (S : Nat → Prop) (x : Wd) (v : Value) : Prop :=
  ∃ kA kn kc mA mn mc nA nn nc lA ln lc vA vn vc oA on oc, v = .agg #[.slice kA kn kc, .slice mA mn mc, .slice nA nn nc, .slice lA ln lc, .slice vA vn vc, .bool x.dev, .int .i64 x.lim.dec, .int .i64 x.lim.nod, .int .i64 x.lim.dirs, .int .i64 x.lim.path, .slice oA on oc, .bool x.like] ∧
    SlV rPack w S x.packs (.slice kA kn kc) ∧ SlV rDep w S x.man.deps (.slice mA mn mc) ∧ SlV rDep w S x.man.dev (.slice nA nn nc) ∧ SlV rDep w S x.man.opts (.slice lA ln lc) ∧ SlV rDep w S x.man.over (.slice vA vn vc) ∧ SlV rDir w S x.old (.slice oA on oc) ∧ (I64 x.lim.dec ∧ I64 x.lim.nod ∧ I64 x.lim.dirs ∧ I64 x.lim.path)
def rWd : Rp Wd where
  size := 12
  holds := fun w S x cs => ∃ s0 s1 s2 s3 s4 s5, cs = [s0, s1, s2, s3, s4, .bool x.dev, .int .i64 x.lim.dec, .int .i64 x.lim.nod, .int .i64 x.lim.dirs, .int .i64 x.lim.path, s5, .bool x.like] ∧ SlV rPack w S x.packs s0 ∧ SlV rDep w S x.man.deps s1 ∧ SlV rDep w S x.man.dev s2 ∧ SlV rDep w S x.man.opts s3 ∧ SlV rDep w S x.man.over s4 ∧ SlV rDir w S x.old s5 ∧ (I64 x.lim.dec ∧ I64 x.lim.nod ∧ I64 x.lim.dirs ∧ I64 x.lim.path)
  len := fun ⟨s0, s1, s2, s3, s4, s5, h, _⟩ => by rw [h]; rfl
  one := fun ⟨s0, s1, s2, s3, s4, s5, h, c0, c1, c2, c3, c4, c5, _⟩ => by obtain ⟨_, _, rfl, _⟩ := c0.val; obtain ⟨_, _, rfl, _⟩ := c1.val; obtain ⟨_, _, rfl, _⟩ := c2.val; obtain ⟨_, _, rfl, _⟩ := c3.val; obtain ⟨_, _, rfl, _⟩ := c4.val; obtain ⟨_, _, rfl, _⟩ := c5.val; rw [h]; simp [Value.oneCell']
  mono := fun ⟨s0, s1, s2, s3, s4, s5, h, c0, c1, c2, c3, c4, c5, i⟩ hk => ⟨s0, s1, s2, s3, s4, s5, h, (rSlice rPack).mono c0 hk, (rSlice rDep).mono c1 hk, (rSlice rDep).mono c2 hk, (rSlice rDep).mono c3 hk, (rSlice rDep).mono c4 hk, (rSlice rDir).mono c5 hk, i⟩
def bkWd (x : Wd) : Nat := 1 + bkL bkPack x.packs + bkMani x.man + 1 + 1 + (1 + bkL bkDir x.old) + 1
set_option maxRecDepth 100000 in
theorem opensB_Wd : OpensB Tryz.prog 35 rWd bkWd := by
  intro H enc w base fuel cs x h
  obtain ⟨xs, n, rfl, rfl, hlen, hxl, hf⟩ := DataW.trod_struct Tryz.underlying35 h
  rw [show Tryz.prog.cellsOf 35 = 12 from by kernel_rfl] at hlen
  match cs, hlen with
  | [c0, c1, c2, c3, c4, c5, c6, c7, c8, c9, c10, c11], _ =>
    have k0 : Tryz.prog.cellsOf 25 = 1 := by kernel_rfl
    have k1 : Tryz.prog.cellsOf 28 = 4 := by kernel_rfl
    have k2 : Tryz.prog.cellsOf 4 = 1 := by kernel_rfl
    have k3 : Tryz.prog.cellsOf 30 = 4 := by kernel_rfl
    have k4 : Tryz.prog.cellsOf 33 = 1 := by kernel_rfl
    have f0 := hf 0 _ rfl
    have f1 := hf 1 _ rfl
    have f2 := hf 2 _ rfl
    have f3 := hf 3 _ rfl
    have f4 := hf 4 _ rfl
    have f5 := hf 5 _ rfl
    match xs, hxl with
    | [x0, x1, x2, x3, x4, x5], _ =>
      simp [k0, k1, k2, k3, k4] at f0 f1 f2 f3 f4 f5
      obtain ⟨y0, g0, b0⟩ := opensB_slice (e := 52) Tryz.underlying25 (r := rPack) (by kernel_rfl) (by decide) opensB_Pack H enc w base n [c0] x0 f0
      obtain ⟨v0, h0, g0⟩ : ∃ v0, [c0] = [v0] ∧ SlV rPack w (fun b => b < w.heap.size) y0 v0 := ⟨c0, rfl, g0⟩
      obtain ⟨y1, ⟨v1, v2, v3, v4, h1, g1, g2, g3, g4⟩, b1⟩ := opensB_Mani H enc w base n [c1, c2, c3, c4] x1 f1
      simp only [List.cons.injEq, and_true] at h1
      obtain ⟨rfl, rfl, rfl, rfl⟩ := h1
      obtain ⟨y2, h2, b2⟩ := opensB_bool Tryz.underlying4 H enc w base n [c5] x2 f2
      have h2' : [c5] = [Value.bool y2] := h2
      simp only [List.cons.injEq, and_true] at h2'
      subst h2'
      obtain ⟨y3, ⟨h3, i3⟩, b3⟩ := opensB_Lim H enc w base n [c6, c7, c8, c9] x3 f3
      simp only [List.cons.injEq, and_true] at h3
      obtain ⟨rfl, rfl, rfl, rfl⟩ := h3
      obtain ⟨y4, ⟨v5, h4, g5⟩, b4⟩ := opensB_Tree H enc w base n [c10] x4 f4
      simp only [List.cons.injEq, and_true] at h4
      subst h4
      obtain ⟨y5, h5, b5⟩ := opensB_bool Tryz.underlying4 H enc w base n [c11] x5 f5
      have h5' : [c11] = [Value.bool y5] := h5
      simp only [List.cons.injEq, and_true] at h5'
      subst h5'
      simp only [List.cons.injEq, and_true] at h0
      subst h0
      refine ⟨⟨y0, y1, y2, y3, y4.dirs, y5⟩, ⟨_, _, _, _, _, _, rfl, g0, g1, g2, g3, g4, g5, i3⟩, ?_⟩
      simp only [bkWd, bkTree, Rows.uptoBulk, Rows.uptoBulkAll, List.map_cons, List.map_nil] at *
      omega
set_option maxRecDepth 100000 in
theorem wd_arg {H : Type} {enc : TypeId × Value → H} {w : World} {v : Value} {d : DataW H} {ps : List MemPlace} {base : Nat} {r : Reach}
    (hv : Value.okWide Tryz.prog w r base 35 v) (h : DataW.Trod enc Tryz.prog w 0 (fun _ => true) true 35 v d ps) :
    ∃ x : Wd, WdV w (fun b => b < w.heap.size) x v ∧ bkWd x ≤ Rows.uptoBulk d := by
  obtain ⟨y, hy, hbk⟩ := opensB_arg opensB_Wd h
  obtain ⟨cs, rfl, _⟩ := okWide_struct Tryz.underlying35 hv
  obtain ⟨s0, s1, s2, s3, s4, s5, hcs, g0, g1, g2, g3, g4, g5, i⟩ := hy
  obtain ⟨A0, c0, rfl, _, _⟩ := g0.val
  obtain ⟨A1, c1, rfl, _, _⟩ := g1.val
  obtain ⟨A2, c2, rfl, _, _⟩ := g2.val
  obtain ⟨A3, c3, rfl, _, _⟩ := g3.val
  obtain ⟨A4, c4, rfl, _, _⟩ := g4.val
  obtain ⟨A5, c5, rfl, _, _⟩ := g5.val
  have e : cs.toList = [.slice A0 y.packs.length c0, .slice A1 y.man.deps.length c1, .slice A2 y.man.dev.length c2, .slice A3 y.man.opts.length c3, .slice A4 y.man.over.length c4, .bool y.dev, .int .i64 y.lim.dec, .int .i64 y.lim.nod, .int .i64 y.lim.dirs, .int .i64 y.lim.path, .slice A5 y.old.length c5, .bool y.like] := hcs
  obtain rfl : cs = #[.slice A0 y.packs.length c0, .slice A1 y.man.deps.length c1, .slice A2 y.man.dev.length c2, .slice A3 y.man.opts.length c3, .slice A4 y.man.over.length c4, .bool y.dev, .int .i64 y.lim.dec, .int .i64 y.lim.nod, .int .i64 y.lim.dirs, .int .i64 y.lim.path, .slice A5 y.old.length c5, .bool y.like] := Array.ext' e
  exact ⟨y, ⟨_, _, _, _, _, _, _, _, _, _, _, _, _, _, _, _, _, _, rfl, g0, g1, g2, g3, g4, g5, i⟩, hbk⟩
set_option maxRecDepth 100000 in
theorem packs_arg {H : Type} {enc : TypeId × Value → H} {w : World} {v : Value} {d : DataW H} {ps : List MemPlace} {base : Nat} {r : Reach}
    (hv : Value.okWide Tryz.prog w r base 25 v) (h : DataW.Trod enc Tryz.prog w 0 (fun _ => true) true 25 v d ps) :
    ∃ A n c xs, v = .slice A n c ∧ SlV rPack w (fun b => b < w.heap.size) xs (.slice A n c) ∧ bkL bkPack xs ≤ Rows.uptoBulk d := by
  obtain ⟨A, n, c, rfl⟩ := okWide_slice Tryz.underlying25 hv
  obtain ⟨l, hl, hbk⟩ := opensB_arg (opensB_slice (e := 52) Tryz.underlying25 (r := rPack) (by kernel_rfl) (by decide) opensB_Pack) h
  exact ⟨A, n, c, l, rfl, hl, hbk⟩

/-- the bounds -/
def PacksZ (l : List Pack) : Prop := l.length ≤ 1048576 ∧ ∀ x ∈ l, SmallP x
def WdZ (x : Wd) : Prop := ∀ d ∈ x.old, d.path.length * 32 ≤ 140737488355328
theorem deps_small {l : List Dep} (h : bkL bkDep l ≤ 1048576) : SmallDs l := by
  have n1 := bkL_len (bk := bkDep) (l := l) fun x => by unfold bkDep; omega
  refine ⟨by omega, fun d hd => ?_⟩
  have k1 : bkDep d ≤ bkL bkDep l := bkL_mem (bk := bkDep) hd
  have k2 := bkL_len (bk := bkSpn) (l := d.range) fun x => by unfold bkSpn; omega
  have k4 : bkDep d = 1 + (d.name.size + 1) + bkL bkSpn d.range := rfl
  omega
theorem packs_small {l : List Pack} {B : Nat} (h : bkL bkPack l ≤ B) (hB : B ≤ 1048576) : PacksZ l := by
  have n1 := bkL_len (bk := bkPack) (l := l) fun x => by unfold bkPack; omega
  refine ⟨by omega, fun x hx => ?_⟩
  have k1 : bkPack x ≤ bkL bkPack l := bkL_mem (bk := bkPack) hx
  have k4 : bkPack x = 1 + (x.name.size + 1) + bkVer x.ver + bkL bkDep x.deps + bkL bkDep x.peers + bkL bkDep x.opts := rfl
  exact ⟨deps_small (by omega), deps_small (by omega), deps_small (by omega)⟩
theorem nodes_small {l : List Node} {B : Nat} (h : 1 + bkL bkNode l ≤ B) (hB : B ≤ 1048576) : l.length ≤ 1048576 := by
  have n1 := bkL_len (bk := bkNode) (l := l) fun x => by unfold bkNode; omega
  omega
theorem wdZ_of {x : Wd} (h : bkWd x ≤ 1048576) : WdZ x := fun d hd => by
  have e : bkWd x = 1 + bkL bkPack x.packs + bkMani x.man + 1 + 1 + (1 + bkL bkDir x.old) + 1 := rfl
  have k1 : bkDir d ≤ bkL bkDir x.old := bkL_mem (bk := bkDir) hd
  have k2 := bkL_len (bk := fun s : ByteArray => s.size + 1) (l := d.path) fun x => by omega
  have k4 : bkDir d = 1 + bkL (fun s : ByteArray => s.size + 1) d.path + bkPack d.pack + 1 := rfl
  omega
end Go.Proofs.YtminjjdnmpaaoaaGreatDoor
