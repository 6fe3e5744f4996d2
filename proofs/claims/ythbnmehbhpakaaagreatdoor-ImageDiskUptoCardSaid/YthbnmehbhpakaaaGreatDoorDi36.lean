/-
  The law of a project's files on a disk.
-/
import Derived.Test.YthbnmehbhpakaaaGreatDoorDi31
import Derived.Test.YthbnmehbhpakaaaGreatDoorDi35
import Derived.Test.YthbnmehbhpakaaaGreatDoorDi29
set_option autoImplicit false
set_option relaxedAutoImplicit false
set_option linter.unusedVariables false
set_option linter.unusedSimpArgs false
namespace Go.Proofs.YthbnmehbhpakaaaGreatDoor
open Go.Rows Go.RowKit Go.Shelf Go.Sort

/-- bounds of what a disk is loaded from -/
theorem imgF_small {s : Proj} (h : mayI s = true) : (imgF s).1.length ≤ 2000000 ∧ ∀ f ∈ (imgF s).1, f.path.size ≤ 67108864 := by
  unfold imgF
  rw [if_pos h]
  split
  · exact ⟨by simp, fun f hf => by cases hf⟩
  · have h1 := (imgU_len s).2
    have h2 := (dirs_len (mayI_check h)).2
    have hp := sortS_perm (imgU s)
    refine ⟨by show (sortS (imgU s)).length ≤ _; rw [hp.length_eq]; omega, fun f hf => ?_⟩
    have := path_size (imgU_path h (hp.mem_iff.1 hf)).1
    omega
theorem look_is {t : List Dir} {i : Int} {s : ByteArray} (h : 0 ≤ lookI t i s) : ∃ (j : Nat) (d : Dir), lookI t i s = (j : Int) ∧ t[j]? = some d := by
  have := (lookI_range t i s).2
  exact ⟨(lookI t i s).toNat, _, by omega, List.getElem?_eq_getElem (by omega)⟩
/-- the labels of a directory's node are short -/
theorem labels_small {s : Proj} (h : mayI s = true) {k : Nat} {x : Node} (hx : s.nodes[k]? = some x) : x.edges.length ≤ 128 ∧ ∀ e ∈ x.edges, e.label.size ≤ 16 := by
  obtain ⟨_, hz⟩ := lockB_nodes (mayI_lock h)
  have hw := lockB_at (mayI_lock h) k x hx
  have hn := hz x (List.mem_of_getElem? hx)
  exact ⟨hn.2.2.1, fun e he => nameB_size (hw.2.2.2 e he).1⟩

set_option maxHeartbeats 12800000 in
set_option maxRecDepth 100000 in
theorem imageDisk_any (s : Proj) (label : ByteArray) (v : Value) (w : World) (S : Nat → Prop) (ht : Tab w) (hm : MaxL w) (hz : ProjZ s) (hv : ProjV w S s v) (hlb : label.size ≤ 1048576) :
    Calls Tryz.prog 7 #[v, .string label] w fun e w' => e = .returned (.bool true) ∧ Below w.heap.size w w' := by
  have HFa : Hid (∀ W, Below w.heap.size w W → Calls Tryz.prog 8 #[v] W fun e w' => (∃ q, e = .returned (.tuple #[q, .int .i64 (imgF s).2]) ∧ SlV rFile w' (fun b => W.heap.size ≤ b) (imgF s).1 q) ∧ Below W.heap.size W w') := fun W hW => files_any s v W S (tab_below ht hW) hz (hv.keep hW)
  have Hlv : Hid (∀ W, Below w.heap.size w W → Calls Tryz.prog 11 #[] W fun e w' => e = .returned (.bool true) ∧ Below W.heap.size W w') := fun W hW => lives15_any W (tab_below ht hW) (hm.below hW)
  obtain ⟨A0, n0, c0, A1, n1, c1, A2, n2, c2, A3, n3, c3, A4, n4, c4, A5, n5, c5, rfl, g0, g1, g2, g3, g4, g5⟩ := hv
  have hn5 := g5.n_eq
  have hn4 := g4.n_eq
  have hnz : n5 ≤ 1048576 := by have := hz.2.1; omega
  have Hmay : Hid ((imgF s).2 = 0 → mayI s = true) := fun h => imgF_may h
  have HLd : Hid (mayI s = true → ∀ (A : Option Addr) (n c : Nat) W, Below w.heap.size w W → SlV rFile W (fun _ => True) (imgF s).1 (.slice A n c) → Calls Tryz.prog 17 #[.slice A n c] W fun e w' => (∃ d B rv zv, e = .returned (.tuple #[.pointer (some ⟨d, 0, none⟩), .int .i64 0]) ∧ w'.heap[d]? = some (.cells #[.map (some B), rv, zv] 115 (0, 0)) ∧ ThingsM w' B (imgF s).1) ∧ Below W.heap.size W w') := fun h A n c W hW hl => by
    have hsm := imgF_small h
    refine (diskLoad_any A n c (imgF s).1 W _ (hm.below hW) hl (by rw [hl.n_eq]; exact hsm.1) hsm.2).mono fun e w' ⟨hp, hb⟩ => ⟨?_, hb⟩
    rcases hp with ⟨h1, _⟩ | ⟨_, h2⟩
    · rw [imgF_load h] at h1; cases h1
    · exact h2
  have HTx : Hid (∀ (k : Nat) (d : Dir), s.dirs[k]? = some d → ∀ W, Below w.heap.size w W → ∃ b o pA pc, A5 = some ⟨b, o, none⟩ ∧ W.cell? ⟨b, o + k * 9, none⟩ = some (.slice pA d.path.length pc) ∧ W.cell? ⟨b, o + k * 9 + 8, none⟩ = some (.int .i64 d.node) ∧ b < w.heap.size ∧
      Calls Tryz.prog 18 #[.slice pA d.path.length pc] W fun e w' => e = .returned (.string (textB d.path)) ∧ Below W.heap.size W w') := fun k d hd W hW => by
    obtain ⟨b, o, cs, hA, hSb, hbl, hh, hcell⟩ := (g5.more (S' := fun b => b < w.heap.size) fun b _ h => h).elem hd
    obtain ⟨pA, pa, pB, pb, pC, pc, pD, pd, rfl, hp, _, _⟩ := dir_cells hh
    have c0 := hcell 0 _ rfl
    have c8 := hcell 8 _ rfl
    simp only [rDir, Nat.add_zero] at c0 c8
    refine ⟨b, o, pA, pa, hA, below_cell hW c0 hbl, below_cell hW c8 hbl, hbl, ?_⟩
    exact treeText_any _ _ _ _ W (fun b => b < w.heap.size) (fun b h => Nat.lt_of_lt_of_le h hW.size) (hz.2.2 d (List.mem_of_getElem? hd)) (hp.belowSize hW)
  have HLk : Hid (∀ (k : Nat) (x : ByteArray) W, x.size ≤ maxLen → Below w.heap.size w W → Calls Tryz.prog 19 #[.agg #[.slice A5 n5 c5], .int .i64 (k : Int), .string x] W fun e w' => e = .returned (.int .i64 (lookI s.dirs (k : Int) x)) ∧ Below W.heap.size W w') := fun k x W hx hW => look_any A5 n5 c5 s.dirs x W S (k : Int) hx hz.2.2 (g5.belowSize hW)
  have HOn : Hid (mayI s = true → ∀ (k : Nat) (dd : Dir), s.dirs[k]? = some dd → ∀ (x : ByteArray) (d B : Nat) (rv zv : Value) W, x.size ≤ 1048576 → Below w.heap.size w W → W.heap[d]? = some (.cells #[.map (some B), rv, zv] 115 (0, 0)) → ThingsM W B (imgF s).1 →
      Calls Tryz.prog 20 #[.pointer (some ⟨d, 0, none⟩), .string (textB dd.path), .string x] W fun e w' => e = .returned (.tuple #[.string (diskA s.dirs (lookI s.dirs (k : Int) x)).1, .bool (diskA s.dirs (lookI s.dirs (k : Int) x)).2]) ∧ Below W.heap.size W w') := fun h k dd hd x d B rv zv W hx hW hH hM => by
    have hK := dirK_of (mayI_check h) k dd hd
    have hsz := dir_text h hd
    have hpl : dd.path.length ≤ 1024 := by
      by_cases h0 : dd.path = []
      · rw [h0]; simp
      · have e1 := textB_segs h0 hK.1
        have e2 : (textB dd.path).size = (sl (segs dd.path)).length := by rw [e1, mkP_size]
        have e3 : ∀ k : List (List UInt8), k.length ≤ (sl k).length := fun k => by
          induction k with
          | nil => exact Nat.le_refl _
          | cons a k ih => rw [sl, List.length_cons, List.length_cons, List.length_append]; omega
        have e4 := e3 (segs dd.path)
        rw [segs_len] at e4
        omega
    have htz : ∀ q, (textB (dd.path.take q ++ [x])).size ≤ 67108864 := fun q => by
      unfold textB
      rw [if_neg (by simp)]
      split
      · rename_i hall
        show (joined (dd.path.take q ++ [x])).toArray.size ≤ _
        have := joined_len hall
        rw [List.length_append, List.length_take, List.length_singleton] at this
        rw [List.size_toArray]
        omega
      · decide
    have := onDisk_any d B rv zv (imgF s).1 (textB dd.path) x W (by omega) hx (hm.below hW) (by rw [parseR_text hK.1]; show dd.path.length ≤ _; omega) (by rw [parseR_text hK.1]; exact htz) (cell_of_row _ _ 0 _ _ _ hH) (Array.getElem?_eq_some_iff.1 hH).1 hM
    rwa [onDisk_look h hd x] at this
  have HNd : Hid (mayI s = true → ∀ (k : Nat) (d : Dir), s.dirs[k]? = some d → ∃ (q : Nat) (x : Node), d.node = (q : Int) ∧ q < n4 ∧ s.nodes[q]? = some x ∧ x.edges.length ≤ 128 ∧ (∀ e ∈ x.edges, e.label.size ≤ 16) ∧ ∃ b o eA ec, A4 = some ⟨b, o, none⟩ ∧ b < w.heap.size ∧ ∀ W, Below w.heap.size w W → W.cell? ⟨b, o + q * 6 + 5, none⟩ = some (.slice eA x.edges.length ec) ∧ SlV rEdge W (fun b => b < w.heap.size) x.edges (.slice eA x.edges.length ec)) := fun h k d hd => by
    obtain ⟨h1, h2⟩ := node_at h hd
    have hlt : d.node.toNat < s.nodes.length := by omega
    have hx := List.getElem?_eq_getElem hlt
    obtain ⟨e1, e2⟩ := labels_small h hx
    obtain ⟨b, o, cs, hA, hSb, hbl, hh, hcell⟩ := (g4.more (S' := fun b => b < w.heap.size) fun b _ h => h).elem hx
    obtain ⟨s0, s1, rfl, _, _, _, _, _, he⟩ := hh
    obtain ⟨eA, ec, rfl, _, _⟩ := he.val
    have c5 := hcell 5 _ rfl
    simp only [rNode] at c5
    exact ⟨d.node.toNat, _, by omega, by omega, hx, e1, e2, b, o, eA, ec, hA, hbl, fun W hW => ⟨below_cell hW c5 hbl, he.belowSize hW⟩⟩
  have Hn5 := Lib.hid hn5
  have Hlb := Lib.hid hlb
  clear g0 g1 g2 g3 g4 g5 hn5 hn4 ht hm hz hlb
  generalize imgF s = RA at *
  obtain ⟨LA, ea⟩ := RA
  generalize s.pruned = pa at *
  obtain ⟨w0, hw0⟩ : ∃ w0, w0 = w.alloc (.cells #[.slice A0 n0 c0, .slice A1 n1 c1, .slice A2 n2 c2, .slice A3 n3 c3, .slice A4 n4 c4, .slice A5 n5 c5, .bool pa] 32) := ⟨_, rfl⟩
  have HB0 : Hid (Below w.heap.size w w0) := by unfold Hid; rw [hw0]; exact bal (Below.refl _ _) _
  have HQA : Hid (w0.heap[w.heap.size]? = some (.cells #[.slice A0 n0 c0, .slice A1 n1 c1, .slice A2 n2 c2, .slice A3 n3 c3, .slice A4 n4 c4, .slice A5 n5 c5, .bool pa] 32 (0, 0))) := by unfold Hid; rw [hw0]; exact heap_new _ _
  have Hst : Hid (∀ W, Below w0.heap.size w0 W → W.cell? ⟨w.heap.size, 0, none⟩ = some (.slice A0 n0 c0) ∧ W.cell? ⟨w.heap.size, 1, none⟩ = some (.slice A1 n1 c1) ∧ W.cell? ⟨w.heap.size, 2, none⟩ = some (.slice A2 n2 c2) ∧ W.cell? ⟨w.heap.size, 3, none⟩ = some (.slice A3 n3 c3) ∧ W.cell? ⟨w.heap.size, 4, none⟩ = some (.slice A4 n4 c4) ∧ W.cell? ⟨w.heap.size, 5, none⟩ = some (.slice A5 n5 c5) ∧ W.cell? ⟨w.heap.size, 6, none⟩ = some (.bool pa)) := fun W hW => by
    have h1 := (hW.block _ (Array.getElem?_eq_some_iff.1 HQA.out).1).trans HQA.out
    exact ⟨cell_of_row _ _ 0 _ _ _ h1, cell_of_row _ _ 1 _ _ _ h1, cell_of_row _ _ 2 _ _ _ h1, cell_of_row _ _ 3 _ _ _ h1, cell_of_row _ _ 4 _ _ _ h1, cell_of_row _ _ 5 _ _ _ h1, cell_of_row _ _ 6 _ _ _ h1⟩
  clear HQA
  go_enter Tryz.func7, Tryz.ntmps7
  go_wp2_with fail
  rw [← hw0]
  clear hw0
  refine (HFa.out w0 HB0.out).mono ?_
  rintro e w1 ⟨⟨u1, rfl, h1⟩, hb1⟩
  obtain ⟨X1, e1, rfl, _, _⟩ := h1.val
  have HB1 := Lib.hid hb1
  have HS1 := Lib.hid (h1.more (S' := fun _ => True) fun _ _ _ => trivial)
  clear hb1 h1 HFa
  by_cases hea : ea = 0
  case neg =>
    have hb : (ea != 0) = true := by simp [hea]
    clear hea Hmay HLd HTx HLk HOn HNd HS1 Hst
    go_wp2_with fail
    refine (Hlv.out w1 (bot HB0.out HB1.out)).mono ?_
    rintro e w4 ⟨rfl, hb4⟩
    have HB4 := Lib.hid (bot (bot HB0.out HB1.out) hb4)
    clear hb4 Hlv
    go_wp2_with fail
    go_ret
    exact ⟨rfl, HB4.out⟩
  have hmy := Hmay.out hea
  have HLd2 := Lib.hid (HLd.out hmy)
  have HOn2 := Lib.hid (HOn.out hmy)
  have HNd2 := Lib.hid (HNd.out hmy)
  have hb0 : (ea != 0) = false := by simp [hea]
  clear hea hmy Hmay HLd HOn HNd
  generalize LA.length = NA at *
  go_wp2_with fail
  refine (HLd2.out X1 NA e1 w1 (bot HB0.out HB1.out) HS1.out).mono ?_
  rintro e w2 ⟨⟨dd, BM, rv, zv, rfl, hd2, hM2⟩, hb2⟩
  have HB2 := Lib.hid (bot HB1.out hb2)
  have HD2 := Lib.hid hd2
  have HM2 := Lib.hid hM2
  clear hb2 hd2 hM2 HB1 HS1 HLd2 hb0
  have hdz : dd < w2.heap.size := (Array.getElem?_eq_some_iff.1 HD2.out).1
  have HDk : Hid (∀ W, Below w2.heap.size w2 W → W.heap[dd]? = some (.cells #[.map (some BM), rv, zv] 115 (0, 0)) ∧ ThingsM W BM LA) := fun W hW => ⟨(hW.block _ hdz).trans HD2.out, HM2.out.keep hW⟩
  have HBw : Hid (∀ W, Below w2.heap.size w2 W → Below w0.heap.size w0 W) := fun W hW => bot HB2.out hW
  clear HD2 HM2 hdz HB2
  go_wp2_with fail
  go_loopw [9] (fun i wr => ∃ k : Nat, k ≤ n5 ∧ i = .int .i64 k ∧ Hid (Below w2.heap.size w2 wr)) (fun i _ => n5 - (intOf i).toNat)
  case atStart => exact ⟨0, Nat.zero_le _, rfl, Below.refl _ _⟩
  case round =>
    obtain ⟨k, hk, rfl, hbel⟩ := hrel
    obtain ⟨x0, x1, x2, x3, x4, x5, x6⟩ := Hst.out wr (HBw.out _ hbel.out)
    have hk0 : (0 : Int) ≤ (k : Int) := by omega
    by_cases hlt : k < n5
    case neg =>
      have Hbf := Lib.hid (bot HB0.out (HBw.out _ hbel.out))
      obtain rfl : k = n5 := by omega
      have hI : ¬ (k : Int) < (k : Int) := by omega
      clear HTx HLk HOn2 HNd2
      go_wp2_with fail
      refine (Hlv.out _ Hbf.out).mono ?_
      rintro e w4 ⟨rfl, hb4⟩
      have HB4 := Lib.hid (bot Hbf.out hb4)
      clear hb4 Hlv
      go_wp2_with fail
      go_ret
      exact ⟨rfl, HB4.out⟩
    have hkn : (k : Int) < (n5 : Int) := by omega
    obtain ⟨d, hd⟩ : ∃ d, s.dirs[k]? = some d := ⟨_, List.getElem?_eq_getElem (by rw [← Hn5.out]; exact hlt)⟩
    have Htx0 := Lib.hid (HTx.out k d hd)
    obtain ⟨b, o, pA, pc, hA, y0, y8, hbl, hT⟩ := HTx.out k d hd wr (bot HB0.out (HBw.out _ hbel.out))
    have HT := Lib.hid hT
    have HOk := Lib.hid (HOn2.out k d hd)
    obtain ⟨q, x, hnq, hq4, -, hel, hls, b4, o4, eA, ec, hA4, hb4, hed⟩ := HNd2.out k d hd
    have HED := Lib.hid hed
    have HLs := Lib.hid hls
    have HLKk := Lib.hid (HLk.out k)
    rw [hnq] at y8
    generalize hxe : x.edges = eds at *
    obtain ⟨en, hen⟩ : ∃ en, en = eds.length := ⟨_, rfl⟩
    rw [← hen] at HED hel
    have Hen := Lib.hid hen
    subst hA
    subst hA4
    generalize textB d.path = frm at *
    generalize d.path.length = pn at *
    clear hT hed hls hnq hd Htx0 hxe hen
    clear x
    have hq0 : (0 : Int) ≤ (q : Int) := by omega
    have hqn : (q : Int) < (n4 : Int) := by omega
    go_wp2_with fail
    refine HT.out.mono ?_
    rintro e w3 ⟨rfl, hb3⟩
    have HB3 := Lib.hid (bot hbel.out hb3)
    have y8' := below_cell hb3 y8 (Nat.lt_of_lt_of_le hbl (bot HB0.out (HBw.out _ hbel.out)).size)
    clear hb3 HT y0 y8 x0 x1 x2 x3 x4 x5 x6 hbel
    obtain ⟨x0, x1, x2, x3, x4, x5, x6⟩ := Hst.out w3 (HBw.out _ HB3.out)
    obtain ⟨w4, hw4⟩ : ∃ w4, w4 = w3.alloc (.cells #[.string label] 9) := ⟨_, rfl⟩
    have HO4 : Hid (Own rStr w4 w3.heap.size 9 (.slice (some ⟨w3.heap.size, 0, none⟩) 1 1) (label :: (eds.take 0).map (·.label)) (fun _ => False)) := by
      unfold Hid
      rw [hw4]
      exact Own.lit label #[.string label] (Nat.le_refl _) ⟨rfl, by have := Hlb.out; unfold maxLen; omega⟩ (fun b h => h.elim)
    have HB4 : Hid (Below w3.heap.size w3 w4) := by unfold Hid; rw [hw4]; exact bal (Below.refl _ _) _
    go_upto_region 13 with (fail)
    rw [← hw4]
    clear hw4 y8' x0 x1 x2 x3 x4 x5 x6
    have HBx : Hid (∀ W, Below w3.heap.size w3 W → Below w2.heap.size w2 W) := fun W hW => bot HB3.out hW
    go_wp2_with fail
    go_loopw [12, 13] (fun u i wr => ∃ (j : Nat) (NB : Nat) (mm nc : Nat), j ≤ en ∧ i = .int .i64 j ∧ u = .slice (some ⟨NB, 0, none⟩) mm nc ∧ Hid (mm = j + 1) ∧ Hid (Own rStr wr w3.heap.size 9 (.slice (some ⟨NB, 0, none⟩) mm nc) (label :: (eds.take j).map (·.label)) (fun _ => False)) ∧ Hid (Below w3.heap.size w3 wr)) (fun _ i _ => en - (intOf i).toNat)
    case atStart => exact ⟨0, _, _, _, Nat.zero_le _, rfl, rfl, rfl, HO4, HB4⟩
    case round =>
      clear HO4 HB4
      obtain ⟨j, NB, mm, nc, hj, rfl, rfl, Hmm, Hown, Hbel⟩ := hrel
      have hs3 : w3.heap.size ≤ wr.heap.size := Hbel.out.size
      have hj0 : (0 : Int) ≤ (j : Int) := by omega
      obtain ⟨x0, x1, x2, x3, x4, x5, x6⟩ := Hst.out wr (HBw.out _ (HBx.out _ Hbel.out))
      obtain ⟨z5, hse⟩ := HED.out wr (bot HB0.out (HBw.out _ (HBx.out _ Hbel.out)))
      by_cases hjt : j < en
      case pos =>
        have hjx : j < eds.length := by have := Hen.out; omega
        obtain ⟨f, fo, cs, rfl, _, hf, ⟨rfl, hlz, _⟩, hcell⟩ := hse.elem (List.getElem?_eq_getElem hjx)
        have e0 := hcell 0 _ rfl
        simp only [rEdge, Nat.add_zero] at e0
        have Hz : Hid (eds[j].label.size ≤ maxLen) := hlz
        have Hlen : Hid ((label :: (eds.take j).map (·.label)).length = j + 1) := by unfold Hid; rw [List.length_cons, List.length_map, List.length_take, Nat.min_eq_left (by omega)]
        have Hnext : Hid ((label :: (eds.take j).map (·.label)) ++ [eds[j].label] = label :: (eds.take (j + 1)).map (·.label)) := by
          unfold Hid
          rw [List.take_succ_eq_append_getElem hjx, List.map_append]
          rfl
        have hjn : (j : Int) < (en : Int) := by omega
        generalize eds[j].label = lb at *
        generalize label :: (eds.take j).map (·.label) = nl at *
        generalize hnl2 : label :: (eds.take (j + 1)).map (·.label) = nl' at *
        have Hnl2 := Lib.hid hnl2
        clear hnl2
        clear hcell hse hlz
        go_wp2_with (at_builtin; refine wpList_push (by rfl) _ _ _ (by rfl) elt_string Tryz.underlying53 (by rfl) (Hown.out.alloc _) ⟨wr.heap.size, 0, none⟩ 1 [.string lb] lb (by rfl) ⟨rfl, Hz.out⟩ (news_of wr #[.string lb] _) (by rw [Hlen.out]; unfold maxLen; omega) (by rw [Hlen.out]; omega) (by simp; omega) (wr.heap.size + 1) (by simp) ?_)
        intro g9 cap9 w9 hown9 hgrow9 hat9 hlt9
        have HB9 := Lib.hid (bgrown (bal Hbel.out _) hgrow9 (Hown.out.alloc _) (Nat.le_refl _))
        rw [Hnext.out] at hown9
        have Hl9 : Hid (nl.length + 1 = j + 1 + 1) := by unfold Hid; rw [Hlen.out]
        have Hown9 := Lib.hid hown9
        generalize nl.length + 1 = l9 at *
        clear hown9 hgrow9 Hown Hbel x0 x1 x2 x3 x4 x5 x6 z5 e0
        go_wp2_with fail
        go_roundw
        case rel => exact ⟨j + 1, _, _, _, by omega, by go_num, rfl, Hl9, by rw [Hnl2.out]; exact Hown9, HB9⟩
        case measure => simp [intOf]; omega
      case neg =>
      obtain rfl : j = en := by omega
      have hall : eds.take j = eds := List.take_of_length_le (by rw [← Hen.out]; exact Nat.le_refl _)
      rw [hall] at Hown
      have HN := Lib.hid ((Hown.out.slv).more (S' := fun b => b < wr.heap.size) fun b _ h => h)
      have HSm : Hid (∀ (q : Nat) (y : ByteArray), (label :: eds.map (·.label))[q]? = some y → y.size ≤ 1048576) := fun q y hy => by
        rcases List.mem_cons.1 (List.mem_of_getElem? hy) with rfl | hm
        · exact Hlb.out
        · obtain ⟨e, he, rfl⟩ := List.mem_map.1 hm
          have := HLs.out e he
          omega
      have Hnl : Hid ((label :: eds.map (·.label)).length = mm) := by unfold Hid; rw [List.length_cons, List.length_map, ← Hen.out, Hmm.out]
      generalize label :: eds.map (·.label) = names at *
      have hmmb : mm ≤ 200 := by have := Hmm.out; omega
      obtain ⟨wi, rfl⟩ : ∃ wi : World, wi = wr := ⟨_, rfl⟩
      have HBy : Hid (∀ W, Below wi.heap.size wi W → Below w2.heap.size w2 W) := fun W hW => HBx.out _ (bot Hbel.out hW)
      have HNk : Hid (∀ W, Below wi.heap.size wi W → SlV rStr W (fun b => b < wi.heap.size) names (.slice (some ⟨NB, 0, none⟩) mm nc)) := fun W hW => HN.out.below hW (fun b h => h)
      clear hall Hown hse HN HLs HED Hbel HBx
      go_wp2_with fail
      clear x0 x1 x2 x3 x4 x5 x6 z5
      go_loopw [14] (fun i wr => ∃ q : Nat, q ≤ mm ∧ i = .int .i64 q ∧ Hid (Below wi.heap.size wi wr)) (fun i _ => mm - (intOf i).toNat)
      case atStart => exact ⟨0, Nat.zero_le _, rfl, Below.refl _ _⟩
      case round =>
        obtain ⟨p, hp, rfl, Hbel⟩ := hrel
        have hp0 : (0 : Int) ≤ (p : Int) := by omega
        by_cases hpt : p < mm
        case neg =>
          have Hbf := Lib.hid (HBy.out _ Hbel.out)
          have hI : ¬ (p : Int) < (mm : Int) := by omega
          go_wp2_with fail
          go_roundw
          case rel => exact ⟨k + 1, by omega, by go_num, Hbf⟩
          case measure => simp [intOf]; omega
        have hpx : p < names.length := by have := Hnl.out; omega
        have Hw0 := Lib.hid (HBw.out _ (HBy.out _ Hbel.out))
        obtain ⟨x0, x1, x2, x3, x4, x5, x6⟩ := Hst.out wr Hw0.out
        obtain ⟨f, fo, cs, hNB, _, hf, ⟨rfl, _⟩, hcell⟩ := (HNk.out wr Hbel.out).elem (List.getElem?_eq_getElem hpx)
        simp only [Option.some.injEq, Addr.mk.injEq, and_true] at hNB
        obtain ⟨rfl, rfl⟩ := hNB
        have e0 := hcell 0 _ rfl
        simp only [rStr, Nat.add_zero, Nat.mul_one, Nat.zero_add] at e0
        have Hsz := Lib.hid (HSm.out p _ (List.getElem?_eq_getElem hpx))
        have hpn : (p : Int) < (mm : Int) := by omega
        generalize names[p] = nm at *
        have HL1 := Lib.hid (qcall (w := wr) (fun W hW => HLKk.out nm W (by have := Hsz.out; unfold maxLen; omega) (bot (bot HB0.out Hw0.out) hW)))
        clear hcell
        have hfz : NB < wr.heap.size := hf
        have hwz : w.heap.size < wr.heap.size := by
          have h1 := Hw0.out.size
          have h2 : w.heap.size < w0.heap.size := by
            have := (Hst.out w0 (Below.refl _ _)).1
            exact (cell_lt this)
          omega
        have r_x5 := cell_regrown x5
        have r_e0 := cell_regrown e0
        go_wp2_with fail
        refine wp_region_qb (by kernel_rfl) (by kernel_rfl) ?_
        repeat (go_big_quiet_step (first | (with_reducible exact HL1.out _ _)))
        refine wpQuiet_nil ?_
        intro w5 B5
        have e0' := below_cell B5 e0 hfz
        have HB5 := Lib.hid (bot Hbel.out B5)
        clear HL1 r_x5 r_e0 x0 x1 x2 x3 x4 x5 x6 e0 B5
        have Hw5 := Lib.hid (bot HB0.out (HBw.out _ (HBy.out _ HB5.out)))
        obtain ⟨hdk, hmk⟩ := HDk.out w5 (HBy.out _ HB5.out)
        have HO5 := Lib.hid (HOk.out nm dd BM rv zv w5 Hsz.out Hw5.out hdk hmk)
        clear hdk hmk
        rcases Int.lt_or_le (lookI s.dirs (k : Int) nm) 0 with hl0 | hl0
        · have hdA : diskA s.dirs (lookI s.dirs (k : Int) nm) = (⟨#[]⟩, false) := by unfold diskA; rw [if_neg (by omega)]
          rw [hdA] at HO5
          have hge : decide ((0 : Int) ≤ lookI s.dirs (k : Int) nm) = false := decide_eq_false (by omega)
          clear hdA
          generalize lookI s.dirs (k : Int) nm = at_ at *
          go_wp2_with fail
          refine HO5.out.mono ?_
          rintro e w6 ⟨rfl, hb6⟩
          have HB6 := Lib.hid (bot HB5.out hb6)
          clear hb6 HO5
          go_wp2_with fail
          go_roundw
          case rel => exact ⟨p + 1, by omega, by go_num, HB6⟩
          case measure => simp [intOf]; omega
        · obtain ⟨a, dA, haj, hda⟩ := look_is hl0
          have hdA : diskA s.dirs (lookI s.dirs (k : Int) nm) = (textB dA.path, true) := by
            unfold diskA
            rw [if_pos hl0, haj, Int.toNat_natCast, List.getD_eq_getElem?_getD, hda]
            rfl
          rw [hdA] at HO5
          rw [haj] at hl0 ⊢
          have han : a < n5 := by rw [Hn5.out]; exact (List.getElem?_eq_some_iff.1 hda).1
          have HTa := Lib.hid (HTx.out a dA hda)
          clear hdA haj hda
          have hge : decide ((0 : Int) ≤ (a : Int)) = true := decide_eq_true (by omega)
          have hanI : (a : Int) < (n5 : Int) := by omega
          go_wp2_with fail
          refine HO5.out.mono ?_
          rintro e w6 ⟨rfl, hb6⟩
          have HB6 := Lib.hid (bot HB5.out hb6)
          clear hb6 HO5
          have Hw6 := Lib.hid (HBw.out _ (HBy.out _ HB6.out))
          obtain ⟨x0, x1, x2, x3, x4, x5, x6⟩ := Hst.out w6 Hw6.out
          obtain ⟨b7, o7, rA, rc, hA7, y0, _, _, hT7⟩ := HTa.out w6 (bot HB0.out Hw6.out)
          injection hA7 with hA7
          injection hA7 with hb7 ho7 _
          subst hb7 ho7
          have HT7 := Lib.hid hT7
          have hbe : ∀ z : ByteArray, (z.toList == z.toList) = true := fun z => by simp
          generalize textB dA.path = tx at *
          generalize dA.path.length = dn at *
          clear hT7
          go_wp2_with fail
          refine HT7.out.mono ?_
          rintro e w7 ⟨rfl, hb7⟩
          have HB7 := Lib.hid (bot HB6.out hb7)
          have hbx := hbe tx
          clear hb7 HT7 x0 x1 x2 x3 x4 x5 x6 y0
          go_wp2_with fail
          go_roundw
          case rel => exact ⟨p + 1, by omega, by go_num, HB7⟩
          case measure => simp [intOf]; omega
end Go.Proofs.YthbnmehbhpakaaaGreatDoor
