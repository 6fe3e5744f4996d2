/-
  image.Files: what lies on the disk of a project: walked.
-/
import Derived.Test.YthbnmehbhpakaaaGreatDoorDi26
import Derived.Test.YthbnmehbhpakaaaGreatDoorDi32
import Derived.Test.YthbnmehbhpakaaaGreatDoorDi33
import Derived.Test.YthbnmehbhpakaaaGreatDoorDi14
set_option autoImplicit false
set_option relaxedAutoImplicit false
set_option linter.unusedVariables false
set_option linter.unusedSimpArgs false
namespace Go.Proofs.YthbnmehbhpakaaaGreatDoor
open Go.Rows Go.RowKit Go.Shelf Go.Sort

/-! ### plain -/
theorem cat_pkg (h : ByteArray) : h ++ ⟨#[47]⟩ ++ ⟨#[112, 97, 99, 107, 97, 103, 101]⟩ = h ++ pkgF := by rw [ByteArray.append_assoc]; rfl
theorem cat_mod (h : ByteArray) : h ++ ⟨#[47]⟩ ++ ⟨#[109, 111, 100, 117, 108, 101, 115]⟩ = h ++ modF := by rw [ByteArray.append_assoc]; rfl
theorem home_ne {d : Dir} {i : Nat} (h : DirK i d) (h0 : i ≠ 0) : ((textB d.path).toList == [47]) = false := by
  have hp : d.path ≠ [] := fun e => h0 (h.2.2 e)
  have hx := textB_segs hp h.1
  have hz := segs_len d.path
  rw [hx, Go.ByteArray.toList_eq]
  show ((sl (segs d.path)).toArray.toList == [47]) = false
  rw [List.toList_toArray]
  have hlen : 2 ≤ (sl (segs d.path)).length := by
    have key : ∀ k : List (List UInt8), k.length ≤ (sl k).length := fun k => by
      induction k with
      | nil => exact Nat.le_refl _
      | cons s t ih => rw [sl, List.length_cons, List.length_cons, List.length_append]; omega
    have := key (segs d.path)
    have h1 : 1 ≤ d.path.length := List.length_pos_iff.2 hp
    omega
  cases hb : (sl (segs d.path) == [47]) with
  | false => rfl
  | true =>
    have : sl (segs d.path) = [47] := by simpa using hb
    rw [this] at hlen
    simp at hlen
theorem elems_noS {w : World} {S T : Nat → Prop} : ∀ {l : List File} {xs : List Value}, Elems rFile w S l xs → Elems rFile w T l xs
  | [], _, h => h
  | x :: l, xs, h => by
    obtain ⟨cs, rest, e, hh, hr⟩ := h
    exact ⟨cs, rest, e, hh, elems_noS hr⟩
theorem own_noS {w : World} {base : Nat} {e : TypeId} {v : Value} {l : List File} {S : Nat → Prop} (h : Own rFile w base e v l S) : Own rFile w base e v l (fun _ => False) := by
  obtain ⟨h0, xs, h1, h2⟩ := h
  exact ⟨fun b hb => hb.elim, xs, h1, elems_noS h2⟩
theorem two_elems {w : World} {f g : File} (hf : f.path.size ≤ maxLen ∧ f.data.size ≤ maxLen) (hg : g.path.size ≤ maxLen ∧ g.data.size ≤ maxLen) {S : Nat → Prop} : Elems rFile w S [f, g] [.string f.path, .bool f.dir, .string f.data, .string g.path, .bool g.dir, .string g.data] :=
  ⟨_, _, (rfl : [Value.string f.path, .bool f.dir, .string f.data, .string g.path, .bool g.dir, .string g.data] = [.string f.path, .bool f.dir, .string f.data] ++ [.string g.path, .bool g.dir, .string g.data]), ⟨rfl, hf⟩, _, [], (List.append_nil _).symm, ⟨rfl, hg⟩, rfl⟩
theorem own_two {w : World} {base : Nat} (hb : base ≤ w.heap.size) {f g : File} (hf : f.path.size ≤ maxLen ∧ f.data.size ≤ maxLen) (hg : g.path.size ≤ maxLen ∧ g.data.size ≤ maxLen) :
    Own rFile (w.alloc (.cells #[.string f.path, .bool f.dir, .string f.data, .string g.path, .bool g.dir, .string g.data] 45)) base 45 (.slice (some ⟨w.heap.size, 0, none⟩) 2 2) [f, g] (fun _ => False) :=
  ⟨fun b h => h.elim, _, ⟨rfl, .inr ⟨w.heap.size, 2, _, rfl, hb, heap_alloc_new w _, Nat.le_refl _, by decide, rfl, rfl⟩⟩, two_elems hf hg⟩
theorem slv_two {w : World} {g0 : Nat} {f g : File} (h : w.heap[g0]? = some (.cells #[.string f.path, .bool f.dir, .string f.data, .string g.path, .bool g.dir, .string g.data] 45 (0, 0))) (hf : f.path.size ≤ maxLen ∧ f.data.size ≤ maxLen) (hg : g.path.size ≤ maxLen ∧ g.data.size ≤ maxLen) :
    SlV rFile w (fun b => b = g0) [f, g] (.slice (some ⟨g0, 0, none⟩) 2 2) :=
  SlV.of_block (S := fun b => b = g0) (l := [f, g]) h (two_elems hf hg) rfl (n := 2) rfl (Nat.le_refl 2) (by decide)
def imgHead (s : Proj) : List File := [⟨manF, false, maniText s.man⟩, ⟨lokF, false, lockText s.nodes⟩]
def imgPru (s : Proj) : List File := if s.pruned = true then [⟨pruF, false, emB⟩] else []
theorem imgU_parts (s : Proj) : imgU s = (imgHead s ++ imgPru s) ++ imgDirs s.dirs 0 s.dirs := by unfold imgU imgHead imgPru; rw [List.append_assoc]
theorem bytes_small {b : ByteArray} {n : Nat} (h : b.size ≤ n) (hn : n ≤ 1000000000) : b.size ≤ maxLen := by unfold maxLen; omega

set_option maxHeartbeats 12800000 in
set_option maxRecDepth 100000 in
theorem files_any (s : Proj) (v : Value) (w : World) (S : Nat → Prop) (ht : Tab w) (hz : ProjZ s) (hv : ProjV w S s v) :
    Calls Tryz.prog 8 #[v] w fun e w' => (∃ u, e = .returned (.tuple #[u, .int .i64 (imgF s).2]) ∧ SlV rFile w' (fun b => w.heap.size ≤ b) (imgF s).1 u) ∧ Below w.heap.size w w' := by
  have HPl : Hid (∀ W, Below w.heap.size w W → Calls Tryz.prog 23 #[v] W fun e w' => e = .returned (.bool (placedB s)) ∧ Below W.heap.size W w') := fun W hW => placed_any s v W S (tab_below ht hW) hz (hv.keep hW)
  have HEm : Hid (∀ W, Below w.heap.size w W → Calls Tryz.prog 24 #[v] W fun e w' => e = .returned (.bool (emptyQ s)) ∧ Below W.heap.size W w') := fun W hW => empty_any s v W S (hv.keep hW)
  obtain ⟨A0, n0, c0, A1, n1, c1, A2, n2, c2, A3, n3, c3, A4, n4, c4, A5, n5, c5, rfl, h0, h1, h2, h3, h4, h5⟩ := hv
  have hn5 := h5.n_eq
  have hc5 := h5.cap_le
  unfold maxLen at hc5
  have HMp : Hid (∀ W, Below w.heap.size w W → Calls Tryz.prog 21 #[.agg #[.slice A0 n0 c0, .slice A1 n1 c1, .slice A2 n2 c2, .slice A3 n3 c3]] W fun e w' => e = .returned (.tuple #[.string (maniP s.man).1, .int .i64 (maniP s.man).2]) ∧ Below W.heap.size W w') := fun W hW =>
    maniPrint_any s.man _ W S (tab_below ht hW) ⟨_, _, _, _, _, _, _, _, _, _, _, _, rfl, h0.belowSize hW, h1.belowSize hW, h2.belowSize hW, h3.belowSize hW⟩
  have HLk : Hid (∀ W, Below w.heap.size w W → Calls Tryz.prog 22 #[.agg #[.slice A4 n4 c4]] W fun e w' => e = .returned (.tuple #[.string (lockP s.nodes).1, .int .i64 (lockP s.nodes).2]) ∧ Below W.heap.size W w') := fun W hW => lockPrint_any A4 n4 c4 s.nodes W S (tab_below ht hW) (h4.belowSize hW) hz.1
  have HIn : Hid (∀ (k : Nat) W, Below w.heap.size w W → Calls Tryz.prog 27 #[.agg #[.slice A5 n5 c5], .int .i64 (k : Int)] W fun e w' => (∃ v, e = .returned v ∧ SlV rInt w' (fun b => W.heap.size ≤ b) (castL (insideL s.dirs k)) v) ∧ Below W.heap.size W w') := fun k W hW => by
    have := inside_any A5 n5 c5 s.dirs (k : Int) W S (h5.belowSize hW) hz.2.2 hz.2.1
    rwa [insideI_nat] at this
  have HD := Lib.hid h5
  have Hn := Lib.hid hn5
  have Ht := Lib.hid ht
  have Hlen := Lib.hid hz.2.2
  have HFm : Hid (imgF s = if mayI s = true then (if emptyQ s = true then ([], 0) else (sortS (imgU s), 0)) else ([], 43)) := rfl
  have HMay : Hid (mayI s = (maniB s.man && (lockB s.nodes && placedB s))) := rfl
  have HMq : Hid ((maniB s.man = true ∧ maniP s.man = (maniText s.man, 0) ∧ (maniText s.man).size ≤ 4096) ∨ (maniB s.man = false ∧ maniP s.man = (⟨#[]⟩, 25))) := by
    cases hb : maniB s.man with
    | true =>
      refine .inl ⟨rfl, by unfold maniP; rw [if_pos hb], ?_⟩
      unfold maniB at hb
      simp only [Bool.and_eq_true, decide_eq_true_eq] at hb
      exact hb.2.2.2.2.2
    | false => exact .inr ⟨rfl, by unfold maniP; rw [if_neg (by rw [hb]; decide)]⟩
  have HLq : Hid ((lockB s.nodes = true ∧ lockP s.nodes = (lockText s.nodes, 0) ∧ (lockText s.nodes).size ≤ 1400000) ∨ (lockB s.nodes = false ∧ lockP s.nodes = (⟨#[]⟩, 33))) := by
    cases hb : lockB s.nodes with
    | true => exact .inl ⟨rfl, by unfold lockP; rw [if_pos hb], lockText_le hb⟩
    | false => exact .inr ⟨rfl, by unfold lockP; rw [if_neg (by rw [hb]; decide)]⟩
  have HUp := Lib.hid (imgU_parts s)
  have HUn : Hid (mayI s = true → ((imgU s).map (·.path)).Nodup) := fun h => imgU_apart h
  have HUl := Lib.hid (imgU_len s)
  have HCk : Hid (mayI s = true → checkE s.dirs = 0) := fun h => mayI_check h
  have Hpr : Hid (imgPru s = if s.pruned = true then [⟨pruF, false, emB⟩] else []) := rfl
  have Hhd : Hid (imgHead s = [⟨manF, false, maniText s.man⟩, ⟨lokF, false, lockText s.nodes⟩]) := rfl
  have hnz : n5 ≤ 1048576 := by have := hz.2.1; omega
  clear h0 h1 h2 h3 h4 h5 hn5 hz ht
  obtain ⟨w0, hw0⟩ : ∃ w0, w0 = w.alloc (.cells #[.slice A0 n0 c0, .slice A1 n1 c1, .slice A2 n2 c2, .slice A3 n3 c3, .slice A4 n4 c4, .slice A5 n5 c5, .bool s.pruned] 32) := ⟨_, rfl⟩
  have HB0 : Hid (Below w.heap.size w w0) := by unfold Hid; rw [hw0]; exact bal (Below.refl _ _) _
  have HQ0 : Hid (w0.heap[w.heap.size]? = some (.cells #[.slice A0 n0 c0, .slice A1 n1 c1, .slice A2 n2 c2, .slice A3 n3 c3, .slice A4 n4 c4, .slice A5 n5 c5, .bool s.pruned] 32 (0, 0))) := by unfold Hid; rw [hw0]; exact heap_new _ _
  have hq0 : w.heap.size < w0.heap.size := (Array.getElem?_eq_some_iff.1 HQ0.out).1
  have Hst : Hid (∀ W, Below w0.heap.size w0 W → W.cell? ⟨w.heap.size, 0, none⟩ = some (.slice A0 n0 c0) ∧ W.cell? ⟨w.heap.size, 1, none⟩ = some (.slice A1 n1 c1) ∧ W.cell? ⟨w.heap.size, 2, none⟩ = some (.slice A2 n2 c2) ∧ W.cell? ⟨w.heap.size, 3, none⟩ = some (.slice A3 n3 c3) ∧ W.cell? ⟨w.heap.size, 4, none⟩ = some (.slice A4 n4 c4) ∧ W.cell? ⟨w.heap.size, 5, none⟩ = some (.slice A5 n5 c5) ∧ W.cell? ⟨w.heap.size, 6, none⟩ = some (.bool s.pruned)) := fun W hW => by
    have hX := (hW.block _ hq0).trans HQ0.out
    exact ⟨cell_of_row _ _ 0 _ _ _ hX, cell_of_row _ _ 1 _ _ _ hX, cell_of_row _ _ 2 _ _ _ hX, cell_of_row _ _ 3 _ _ _ hX, cell_of_row _ _ 4 _ _ _ hX, cell_of_row _ _ 5 _ _ _ hX, cell_of_row _ _ 6 _ _ _ hX⟩
  generalize imgF s = R at *
  generalize mayI s = my at *
  generalize emptyQ s = em at *
  generalize placedB s = pb at *
  generalize maniP s.man = mp at *
  generalize lockP s.nodes = lp at *
  generalize maniB s.man = mb at *
  generalize lockB s.nodes = lb at *
  generalize maniText s.man = mt at *
  generalize lockText s.nodes = lt at *
  go_enter Tryz.func8, Tryz.ntmps8
  go_wp2_with fail
  rw [← hw0]
  clear hw0
  refine (HMp.out w0 HB0.out).mono ?_
  rintro e w1 ⟨rfl, hb1⟩
  have HB1 := Lib.hid hb1
  obtain ⟨x0, x1, x2, x3, x4, x5, x6⟩ := Hst.out w1 hb1
  clear hb1 HMp
  rcases HMq.out with ⟨rfl, rfl, hmz⟩ | ⟨rfl, rfl⟩
  case inr =>
    have hR : R = ([], 43) := by rw [HFm.out, HMay.out]; rfl
    subst hR
    clear HFm HMay
    go_wp2_with fail
    go_ret2
    exact ⟨⟨_, rfl, SlV.nil_ _ _ _⟩, bot HB0.out HB1.out⟩
  go_wp2_with fail
  refine (HLk.out w1 (bot HB0.out HB1.out)).mono ?_
  rintro e w2 ⟨rfl, hb2⟩
  have HB2 := Lib.hid (bot HB1.out hb2)
  obtain ⟨x0, x1, x2, x3, x4, x5, x6⟩ := Hst.out w2 HB2.out
  clear hb2 HLk
  rcases HLq.out with ⟨rfl, rfl, hlz⟩ | ⟨rfl, rfl⟩
  case inr =>
    have hR : R = ([], 43) := by rw [HFm.out, HMay.out]; rfl
    subst hR
    clear HFm HMay
    go_wp2_with fail
    go_ret2
    exact ⟨⟨_, rfl, SlV.nil_ _ _ _⟩, bot HB0.out HB2.out⟩
  go_wp2_with fail
  refine (HPl.out w2 (bot HB0.out HB2.out)).mono ?_
  rintro e w3 ⟨rfl, hb3⟩
  have HB3 := Lib.hid (bot HB2.out hb3)
  obtain ⟨x0, x1, x2, x3, x4, x5, x6⟩ := Hst.out w3 HB3.out
  clear hb3 HPl
  cases pb with
  | false =>
    have hR : R = ([], 43) := by rw [HFm.out, HMay.out]; rfl
    subst hR
    clear HFm HMay
    go_wp2_with fail
    go_ret2
    exact ⟨⟨_, rfl, SlV.nil_ _ _ _⟩, bot HB0.out HB3.out⟩
  | true =>
  have hmy : my = true := HMay.out
  subst hmy
  have HFm2 : Hid (R = if em = true then ([], 0) else (sortS (imgU s), 0)) := by unfold Hid; rw [HFm.out, if_pos rfl]
  go_wp2_with fail
  refine (HEm.out w3 (bot HB0.out HB3.out)).mono ?_
  rintro e w4 ⟨rfl, hb4⟩
  have HB4 := Lib.hid (bot HB3.out hb4)
  obtain ⟨x0, x1, x2, x3, x4, x5, x6⟩ := Hst.out w4 HB4.out
  clear hb4 HEm HFm HMay
  cases em with
  | true =>
    have hR : R = ([], 0) := by rw [HFm2.out, if_pos rfl]
    subst hR
    clear HFm2
    go_wp2_with fail
    go_ret2
    exact ⟨⟨_, rfl, SlV.nil_ _ _ _⟩, bot HB0.out HB4.out⟩
  | false =>
  have hR : R = (sortS (imgU s), 0) := by rw [HFm2.out, if_neg (by decide)]
  subst hR
  have HUn2 := Lib.hid (HUn.out trivial)
  have HCk2 := Lib.hid (HCk.out trivial)
  clear HFm2 HUn HCk HMq HLq HB3 HB2 HB1
  go_upto_region 10 with (fail)
  have hmt : mt.size ≤ maxLen := bytes_small hmz (by decide)
  have hlt : lt.size ≤ maxLen := bytes_small hlz (by decide)
  have HO5 : Hid (Own rFile (w4.alloc (.cells #[.string manF, .bool false, .string mt, .string lokF, .bool false, .string lt] 45)) w4.heap.size 45 (.slice (some ⟨w4.heap.size, 0, none⟩) 2 2) (imgHead s) (fun _ => False)) := by
    unfold Hid
    rw [Hhd.out]
    exact own_two (f := ⟨manF, false, mt⟩) (g := ⟨lokF, false, lt⟩) (Nat.le_refl _) ⟨show manF.size ≤ maxLen by decide, hmt⟩ ⟨show lokF.size ≤ maxLen by decide, hlt⟩
  obtain ⟨w5, hw5⟩ : ∃ w5, w5 = w4.alloc (.cells #[.string manF, .bool false, .string mt, .string lokF, .bool false, .string lt] 45) := ⟨_, rfl⟩
  have HB5 : Hid (Below w4.heap.size w4 w5) := by unfold Hid; rw [hw5]; exact bal (Below.refl _ _) _
  rw [← hw5] at HO5
  rw [show (⟨#[47, 109, 97, 110, 105, 102, 101, 115, 116]⟩ : ByteArray) = manF from rfl, show (⟨#[47, 108, 111, 99, 107]⟩ : ByteArray) = lokF from rfl, ← hw5]
  obtain ⟨x0, x1, x2, x3, x4, x5, x6⟩ := Hst.out w5 (bot HB4.out HB5.out)
  clear hw5 hmt hlt
  have hz5 := HB5.out.size
  refine dite (s.pruned = true) (fun hpr => ?_) (fun hpr => ?_)
  focus
    rw [hpr] at x6
    have Hac : Hid (imgHead s ++ [(⟨pruF, false, emB⟩ : File)] = imgHead s ++ imgPru s) := by unfold Hid; rw [Hpr.out, if_pos hpr]
    have Hhl : Hid ((imgHead s).length = 2) := by unfold Hid; rw [Hhd.out]; rfl
    go_wp2_with (at_builtin; refine wpList_push (by rfl) _ _ _ (by rfl) elt_file Tryz.underlying33 (by rfl) (HO5.out.alloc _) ⟨w5.heap.size, 0, none⟩ 1 [.string pruF, .bool false, .string emB] ⟨pruF, false, emB⟩ (by rfl) ⟨rfl, by decide, by decide⟩ (news_of w5 #[.string pruF, .bool false, .string emB] _) (by rw [Hhl.out]; decide) (by rw [Hhl.out]; decide) (by simp; omega) (w5.heap.size + 1) (by simp) ?_)
    intro g6 cap6 w6 hown6 hgrow6 hat6 hg6
    have HB6 := Lib.hid (bgrown (bal HB5.out _) hgrow6 (HO5.out.alloc _) (Nat.le_refl _))
    rw [Hac.out] at hown6
    have HO6 := Lib.hid hown6
    obtain ⟨x0, x1, x2, x3, x4, x5, x6⟩ := Hst.out w6 (bot HB4.out HB6.out)
    clear hown6 hgrow6 hat6 hg6 Hac Hhl HO5
  rotate_left
  focus
    have hprf : s.pruned = false := by simpa using hpr
    rw [hprf] at x6
    have Hac : Hid (imgHead s = imgHead s ++ imgPru s) := by unfold Hid; rw [Hpr.out, if_neg hpr, List.append_nil]
    have HO6' := HO5.out
    rw [Hac.out] at HO6'
    have HO6 := Lib.hid HO6'
    have HB6 := HB5
    obtain ⟨w6, hw6⟩ : ∃ w6, w6 = w5 := ⟨_, rfl⟩
    rw [← hw6] at HO6 HB6 x0 x1 x2 x3 x4 x5 x6
    rw [← hw6]
    clear HO6' HO5 hw6 Hac hprf
  all_goals
    clear hpr HB5 hz5 Hhd Hpr
    generalize imgHead s ++ imgPru s = acc1 at *
    go_wp2_with fail
    clear x0 x1 x2 x3 x4 x5 x6
    go_loopw [7, 51] (fun v i wr => ∃ k : Nat, k ≤ n5 ∧ i = .int .i64 k ∧ Hid (Own rFile wr w4.heap.size 45 v (acc1 ++ imgDirs s.dirs 0 (s.dirs.take k)) (fun _ => False)) ∧ Hid (Below w4.heap.size w4 wr)) (fun _ i _ => n5 - (intOf i).toNat)
    case atStart => exact ⟨0, Nat.zero_le _, rfl, by unfold Hid; rw [show acc1 ++ imgDirs s.dirs 0 (s.dirs.take 0) = acc1 from List.append_nil _]; exact HO6.out, HB6⟩
    case round =>
      clear HO6 HB6
      obtain ⟨k, hk, rfl, HO, HB⟩ := hrel
      have hk0 : (0 : Int) ≤ (k : Int) := by omega
      have HBw := Lib.hid (bot HB0.out (bot HB4.out HB.out))
      have hzr := HB.out.size
      by_cases hlt : k < n5
      case neg =>
        obtain rfl : n5 = k := by omega
        have hI : ¬ (n5 : Int) < (n5 : Int) := by omega
        have hall : s.dirs.take n5 = s.dirs := List.take_of_length_le (by rw [← Hn.out]; exact Nat.le_refl _)
        have hO := HO.out
        rw [hall, ← HUp.out] at hO
        have HS := Lib.hid (sortFile_any _ (imgU s) wr w4.heap.size hO (by have := HUl.out.2; have := (dirs_len HCk2.out).2; omega) (by have := HUl.out.1; omega) HUn2.out)
        have hzr' := HB.out.size
        clear HO hall hO
        go_wp2_with fail
        refine HS.out.mono ?_
        rintro e w7 ⟨rfl, hs7, hb7⟩
        have HB7 := Lib.hid (HB.out.trans (hb7 hzr'))
        have HS7 := Lib.hid hs7
        clear hs7 hb7 HS
        go_wp2_with fail
        go_ret2
        exact ⟨⟨_, rfl, HS7.out.more fun b hb _ => Nat.le_trans (bot HB0.out HB4.out).size hb⟩, bot HB0.out (bot HB4.out HB7.out)⟩
      have hkI : (k : Int) < (n5 : Int) := by omega
      have hkl : k < s.dirs.length := by rw [← Hn.out]; exact hlt
      obtain ⟨d, hd⟩ : ∃ d, s.dirs[k]? = some d := ⟨_, List.getElem?_eq_getElem hkl⟩
      have HK : Hid (DirK k d) := dirK_of HCk2.out k d hd
      have Htk := Lib.hid (imgDirs_take (xs := s.dirs) hd)
      have HId : Hid (imgDir s.dirs k d = (if k = 0 then [] else [⟨textB d.path, true, emB⟩, ⟨textB d.path ++ pkgF, false, packText d.pack⟩]) ++ (if insideL s.dirs k = [] then [] else [⟨if k = 0 then modF else textB d.path ++ modF, true, emB⟩])) := rfl
      have HPk : Hid (k ≠ 0 → packB d.pack = true ∧ (textB d.path).size ≤ 1024) := fun h => dir_pack HCk2.out hd (by omega)
      have hal : (acc1 ++ imgDirs s.dirs 0 (s.dirs.take k)).length ≤ 1000000 := by
        have h1 := imgDirs_len s.dirs (s.dirs.take k) 0
        have h2 := (dirs_len HCk2.out).2
        have h3 := congrArg List.length HUp.out
        have h4 := HUl.out.2
        rw [List.length_append] at h3 ⊢
        rw [List.length_take] at h1
        omega
      obtain ⟨b, o, pA, pc, B1, b1, B2, b2, B3, b3, rfl, hb, hp, hpk, hnd, d0, d1, d2, d3, d4, d5, d6, d7, d8⟩ := dir_elem HD.out hd
      have d0 := below_cell HBw.out d0 hb
      have d1 := below_cell HBw.out d1 hb
      have d2 := below_cell HBw.out d2 hb
      have d3 := below_cell HBw.out d3 hb
      have d4 := below_cell HBw.out d4 hb
      have d5 := below_cell HBw.out d5 hb
      have d6 := below_cell HBw.out d6 hb
      have d7 := below_cell HBw.out d7 hb
      have d8 := below_cell HBw.out d8 hb
      have HT2 : Hid (∀ W, Below w.heap.size w W → Calls Tryz.prog 18 #[.slice pA d.path.length pc] W fun e w' => e = .returned (.string (textB d.path)) ∧ Below W.heap.size W w') := fun W hW =>
        treeText_any pA _ pc d.path W (fun b => b < W.heap.size) (fun _ h => h) (Hlen.out d (List.mem_of_getElem? hd)) ((hp.belowSize hW).more fun _ _ h => h)
      have HPp : Hid (∀ W, Below w.heap.size w W → Calls Tryz.prog 25 #[.agg #[.string d.pack.name, .int .i64 d.pack.ver.major, .int .i64 d.pack.ver.minor, .int .i64 d.pack.ver.patch, .slice B1 d.pack.deps.length b1, .slice B2 d.pack.peers.length b2, .slice B3 d.pack.opts.length b3]] W fun e w' => e = .returned (.tuple #[.string (packP d.pack).1, .int .i64 (packP d.pack).2]) ∧ Below W.heap.size W w') := fun W hW => packPrint_any d.pack _ W S (tab_below Ht.out hW) (hpk.keep hW)
      have HPq : Hid (packB d.pack = true → packP d.pack = (packText d.pack, 0) ∧ (packText d.pack).size ≤ 4096) := fun h => by
        refine ⟨by unfold packP; rw [if_pos h], ?_⟩
        unfold packB at h
        simp only [Bool.and_eq_true, decide_eq_true_eq] at h
        exact h.2.2.2.2.2.2
      have HIn2 := Lib.hid (HIn.out k)
      have HRt : Hid (k = 0 → textB d.path = ⟨#[47]⟩) := fun h => by rw [(HK.out.2.1 h)]; rfl
      have HNe : Hid (k ≠ 0 → ((textB d.path).toList == [47]) = false) := fun h => home_ne HK.out h
      obtain ⟨accK, haccK⟩ : ∃ accK, accK = acc1 ++ imgDirs s.dirs 0 (s.dirs.take k) := ⟨_, rfl⟩
      have HNx : Hid (acc1 ++ imgDirs s.dirs 0 (s.dirs.take (k + 1)) = accK ++ imgDir s.dirs k d) := by unfold Hid; rw [Htk.out, haccK, List.append_assoc]
      rw [← haccK] at HO hal
      clear hd hp hpk hnd Htk haccK
      generalize imgDir s.dirs k d = idk at *
      generalize insideL s.dirs k = il at *
      generalize textB d.path = hm at *
      generalize packText d.pack = pt at *
      generalize packP d.pack = pp at *
      generalize packB d.pack = pbd at *
      generalize d.pack.deps.length = g1 at *
      generalize d.pack.peers.length = g2 at *
      generalize d.pack.opts.length = g3 at *
      generalize d.pack.name = nm at *
      generalize d.pack.ver.major = v1 at *
      generalize d.pack.ver.minor = v2 at *
      generalize d.pack.ver.patch = v3 at *
      generalize d.node = dn at *
      generalize d.path.length = pn at *
      go_upto_region 15 with (fail)
      obtain ⟨w8, hw8⟩ : ∃ w8, w8 = wr.alloc (.cells #[.slice pA pn pc, .string nm, .int .i64 v1, .int .i64 v2, .int .i64 v3, .slice B1 g1 b1, .slice B2 g2 b2, .slice B3 g3 b3, .int .i64 dn] 59) := ⟨_, rfl⟩
      have hq8 : w8.heap[wr.heap.size]? = some (.cells #[.slice pA pn pc, .string nm, .int .i64 v1, .int .i64 v2, .int .i64 v3, .slice B1 g1 b1, .slice B2 g2 b2, .slice B3 g3 b3, .int .i64 dn] 59 (0, 0)) := by rw [hw8]; exact heap_new _ _
      have hb8 : Below wr.heap.size wr w8 := by rw [hw8]; exact bal (Below.refl _ _) _
      rw [← hw8]
      have HO8 := Lib.hid (HO.out.keep hb8)
      have HB8 := Lib.hid (HB.out.trans (hb8.mono HB.out.size))
      have HBw8 := Lib.hid (bot HBw.out hb8)
      have Hd8 : Hid (∀ W, Below w8.heap.size w8 W → W.cell? ⟨wr.heap.size, 0, none⟩ = some (.slice pA pn pc) ∧ W.cell? ⟨wr.heap.size, 1, none⟩ = some (.string nm) ∧ W.cell? ⟨wr.heap.size, 2, none⟩ = some (.int .i64 v1) ∧ W.cell? ⟨wr.heap.size, 3, none⟩ = some (.int .i64 v2) ∧ W.cell? ⟨wr.heap.size, 4, none⟩ = some (.int .i64 v3) ∧ W.cell? ⟨wr.heap.size, 5, none⟩ = some (.slice B1 g1 b1) ∧ W.cell? ⟨wr.heap.size, 6, none⟩ = some (.slice B2 g2 b2) ∧ W.cell? ⟨wr.heap.size, 7, none⟩ = some (.slice B3 g3 b3)) := fun W hW => by
        have hX := (hW.block _ (Array.getElem?_eq_some_iff.1 hq8).1).trans hq8
        exact ⟨cell_of_row _ _ 0 _ _ _ hX, cell_of_row _ _ 1 _ _ _ hX, cell_of_row _ _ 2 _ _ _ hX, cell_of_row _ _ 3 _ _ _ hX, cell_of_row _ _ 4 _ _ _ hX, cell_of_row _ _ 5 _ _ _ hX, cell_of_row _ _ 6 _ _ _ hX, cell_of_row _ _ 7 _ _ _ hX⟩
      clear hw8 hq8 hb8 HO HB HBw d0 d1 d2 d3 d4 d5 d6 d7 d8
      obtain ⟨y0, y1, y2, y3, y4, y5, y6, y7⟩ := Hd8.out w8 (Below.refl _ _)
      go_wp2_with fail
      refine (HT2.out w8 HBw8.out).mono ?_
      rintro e w9 ⟨rfl, hb9⟩
      have HB89 := Lib.hid hb9
      have HO9 := Lib.hid (HO8.out.keep hb9)
      have HB9 := Lib.hid (HB8.out.trans (hb9.mono HB8.out.size))
      have HBw9 := Lib.hid (bot HBw8.out hb9)
      obtain ⟨y0, y1, y2, y3, y4, y5, y6, y7⟩ := Hd8.out w9 hb9
      clear hb9 HT2 HO8 HB8 HBw8
      refine dite (k = 0) (fun hk00 => ?_) (fun hk00 => ?_)
      focus
        have hkg : ¬ (0 : Int) < (k : Int) := by omega
        have hhm := HRt.out hk00
        have HW : Hid (∀ W, Calls Tryz.prog 26 #[.string hm, .string ⟨#[109, 111, 100, 117, 108, 101, 115]⟩] W fun e w' => e = .returned (.string modF) ∧ W = w') := fun W => by
          rw [hhm]
          exact within_root ⟨#[109, 111, 100, 117, 108, 101, 115]⟩ W (by decide)
        have HNy : Hid (acc1 ++ imgDirs s.dirs 0 (s.dirs.take (k + 1)) = accK ++ (if il = [] then [] else [⟨modF, true, emB⟩])) := by unfold Hid; rw [HNx.out, HId.out, if_pos hk00, if_pos hk00, List.nil_append]
        obtain ⟨pm, hpm⟩ : ∃ pm, pm = modF := ⟨_, rfl⟩
        rw [← hpm] at HW HNy
        have Hpz : Hid (pm.size ≤ 2000) := by unfold Hid; rw [hpm]; decide
        obtain ⟨accx, haccx⟩ : ∃ accx, accx = accK := ⟨_, rfl⟩
        obtain ⟨wx, hwx⟩ : ∃ wx, wx = w9 := ⟨_, rfl⟩
        have HOx := HO9
        have HBx := HB9
        have HBwx := HBw9
        rw [← haccx] at HOx HNy
        rw [← hwx] at HOx HBx HBwx
        have hax : accx.length ≤ 1000002 := by rw [haccx]; omega
        clear hpm hhm HO9 HB9 HBw9 HB89 hk00 haccx HId HNx HPp
        go_upto_region 21 with (fail)
        rw [← hwx]
        clear hwx y0 y1 y2 y3 y4 y5 y6 y7
      rotate_left
      focus
        have hkg : (0 : Int) < (k : Int) := by omega
        obtain ⟨hpb, hmz2⟩ := HPk.out hk00
        obtain ⟨hpp, hpz⟩ := HPq.out hpb
        have hne := HNe.out hk00
        have HW1 : Hid (∀ W, Calls Tryz.prog 26 #[.string hm, .string ⟨#[112, 97, 99, 107, 97, 103, 101]⟩] W fun e w' => e = .returned (.string (hm ++ pkgF)) ∧ W = w') := fun W => by
          have := within_home hm ⟨#[112, 97, 99, 107, 97, 103, 101]⟩ W (by omega) (by decide) hne
          rwa [cat_pkg] at this
        have HW : Hid (∀ W, Calls Tryz.prog 26 #[.string hm, .string ⟨#[109, 111, 100, 117, 108, 101, 115]⟩] W fun e w' => e = .returned (.string (hm ++ modF)) ∧ W = w') := fun W => by
          have := within_home hm ⟨#[109, 111, 100, 117, 108, 101, 115]⟩ W (by omega) (by decide) hne
          rwa [cat_mod] at this
        have hkz : (hm ++ pkgF).size ≤ 2000 := by rw [ByteArray.size_append]; have : pkgF.size = 8 := rfl; omega
        have Hmz2 := Lib.hid hmz2
        have Hkz := Lib.hid hkz
        have Hpz2 := Lib.hid hpz
        have HNy0 : Hid (acc1 ++ imgDirs s.dirs 0 (s.dirs.take (k + 1)) = (accK ++ [⟨hm, true, emB⟩, ⟨hm ++ pkgF, false, pt⟩]) ++ (if il = [] then [] else [⟨hm ++ modF, true, emB⟩])) := by unfold Hid; rw [HNx.out, HId.out, if_neg hk00, if_neg hk00, List.append_assoc]
        rw [hpp] at HPp
        clear hk00 hne hpb hmz2 hkz hpz HId HNx HPk HPq HNe HRt
        go_wp2_with fail
        refine (HPp.out w9 HBw9.out).mono ?_
        rintro e wa ⟨rfl, hba⟩
        have HOa := Lib.hid (HO9.out.keep hba)
        have HBa := Lib.hid (HB9.out.trans (hba.mono HB9.out.size))
        have HBwa := Lib.hid (bot HBw9.out hba)
        clear hba HO9 HB9 HBw9 HPp y0 y1 y2 y3 y4 y5 y6 y7
        go_wp2_with fail
        refine (HW1.out _).mono ?_
        rintro e wb ⟨rfl, rfl⟩
        have HRow : Hid ((wa.alloc (.cells #[.string hm, .bool true, .string emB, .string (hm ++ pkgF), .bool false, .string pt] 45)).heap[wa.heap.size]? = some (.cells #[.string hm, .bool true, .string emB, .string (hm ++ pkgF), .bool false, .string pt] 45 (0, 0))) := heap_new _ _
        have hzb : w4.heap.size ≤ wa.heap.size := HBa.out.size
        have HSl := Lib.hid (slv_two (f := ⟨hm, true, emB⟩) (g := ⟨hm ++ pkgF, false, pt⟩) HRow.out ⟨bytes_small Hmz2.out (by decide), show emB.size ≤ maxLen by decide⟩ ⟨bytes_small Hkz.out (by decide), bytes_small Hpz2.out (by decide)⟩)
        have Hlo := Lib.hid HOa.out.lt
        clear HW1
        go_wp2_with (at_builtin; refine wpList_extend (by rfl) _ _ _ (by rfl) elt_file Tryz.underlying33 (by rfl) (HOa.out.alloc _) (fun b => b = wa.heap.size) [⟨hm, true, emB⟩, ⟨hm ++ pkgF, false, pt⟩] _ _ _ (by rfl) HSl.out (by intro b hb he; have := (Hlo.out b he).2; omega) (by unfold maxLen; simp only [List.length_cons, List.length_nil]; omega) (by simp only [List.length_cons, List.length_nil]; omega) (by simp; omega) ?_)
        intro vx wx hownx hgrowx hatx
        have HBx := Lib.hid (bgrown (w := w4) (Below.alloc HBa.out HBa.out.size _) hgrowx (HOa.out.alloc _) (Nat.le_refl _))
        have HOx := Lib.hid (own_noS hownx)
        have HBwx := Lib.hid (bot HB0.out (bot HB4.out HBx.out))
        obtain ⟨accx, haccx⟩ : ∃ accx, accx = accK ++ [⟨hm, true, emB⟩, ⟨hm ++ pkgF, false, pt⟩] := ⟨_, rfl⟩
        obtain ⟨pm, hpm⟩ : ∃ pm, pm = hm ++ modF := ⟨_, rfl⟩
        have Hpz : Hid (pm.size ≤ 2000) := by unfold Hid; rw [hpm, ByteArray.size_append]; have : modF.size = 8 := rfl; have := Hmz2.out; omega
        have HNy := HNy0
        rw [← haccx] at HOx HNy
        rw [← hpm] at HW HNy
        have hax : accx.length ≤ 1000002 := by rw [haccx, List.length_append]; simp only [List.length_cons, List.length_nil]; omega
        clear hownx hgrowx hatx haccx hpm HNy0 HOa HBa HBwa HSl HRow Hlo Hmz2 Hkz Hpz2
        go_upto_region 21 with (fail)
      all_goals
        obtain ⟨x0, x1, x2, x3, x4, x5, x6⟩ := Hst.out wx (bot HB4.out HBx.out)
        go_wp2_with fail
        refine (HIn2.out wx HBwx.out).mono ?_
        rintro e wy ⟨⟨iv, rfl, hiv⟩, hby⟩
        obtain ⟨iA, ic, rfl, _, _⟩ := hiv.val
        have HOy := Lib.hid (HOx.out.keep hby)
        have HBy := Lib.hid (HBx.out.trans (hby.mono HBx.out.size))
        have hcl : (castL il).length = il.length := by unfold castL; rw [List.length_map]
        clear hiv hby HOx HBx HBwx x0 x1 x2 x3 x4 x5 x6
        rw [hcl]
        clear hcl
        have hzy := HBy.out.size
        by_cases hm0 : il = []
        · have hI2 : ¬ (0 : Int) < ((il.length : Nat) : Int) := by rw [hm0]; decide
          have Hfin : Hid (acc1 ++ imgDirs s.dirs 0 (s.dirs.take (k + 1)) = accx) := by unfold Hid; rw [HNy.out, if_pos hm0, List.append_nil]
          clear hm0 HNy
          generalize il.length = iln at *
          go_wp2_with fail
          go_roundw
          case rel => exact ⟨k + 1, by omega, by go_num, by unfold Hid; rw [Hfin.out]; exact HOy.out, HBy⟩
          case measure => simp [intOf]; omega
        · have hI2 : (0 : Int) < ((il.length : Nat) : Int) := by have := List.length_pos_iff.2 hm0; omega
          have Hfin : Hid (acc1 ++ imgDirs s.dirs 0 (s.dirs.take (k + 1)) = accx ++ [⟨pm, true, emB⟩]) := by unfold Hid; rw [HNy.out, if_neg hm0]
          have hpz2 := Hpz.out
          clear hm0 HNy
          generalize il.length = iln at *
          go_wp2_with fail
          refine (HW.out _).mono ?_
          rintro e wz ⟨rfl, rfl⟩
          clear HW
          go_wp2_with (at_builtin; refine wpList_push (by rfl) _ _ _ (by rfl) elt_file Tryz.underlying33 (by rfl) (HOy.out.alloc _) ⟨wy.heap.size, 0, none⟩ 1 [.string pm, .bool true, .string emB] ⟨pm, true, emB⟩ (by rfl) ⟨rfl, bytes_small hpz2 (by decide), show emB.size ≤ maxLen by decide⟩ (news_of wy #[.string pm, .bool true, .string emB] _) (by unfold maxLen; omega) (by omega) (by simp; omega) (wy.heap.size + 1) (by simp) ?_)
          intro gz capz wz hownz hgrowz hatz hgz
          have HBz := Lib.hid (bgrown (w := w4) (Below.alloc HBy.out HBy.out.size _) hgrowz (HOy.out.alloc _) (Nat.le_refl _))
          have HOz := Lib.hid hownz
          clear hownz hgrowz hatz hgz HOy HBy
          go_wp2_with fail
          go_roundw
          case rel => exact ⟨k + 1, by omega, by go_num, by unfold Hid; rw [Hfin.out]; exact HOz.out, HBz⟩
          case measure => simp [intOf]; omega
end Go.Proofs.YthbnmehbhpakaaaGreatDoor
