/-
  lock.May: may a graph be locked: walked.
  lock.node, walked.
-/
import Derived.Test.YthbnmehbhpakaaaGreatDoorDi15
import Derived.Test.YthbnmehbhpakaaaGreatDoorDi07
set_option autoImplicit false
set_option relaxedAutoImplicit false
set_option linter.unusedVariables false
set_option linter.unusedSimpArgs false
namespace Go.Proofs.YthbnmehbhpakaaaGreatDoor
open Go.Rows Go.RowKit Go.Shelf Go.Sort

theorem ret_bL {a b : Bool} (h : a = b) : Ending.returned (.bool a) = .returned (.bool b) := by rw [h]
set_option maxHeartbeats 3200000 in
set_option maxRecDepth 100000 in
theorem rises_any (g : FuncId) (cap : Value) (hE : Enters Tryz.prog g) (l : List ByteArray) (n : Nat) (hn : n = l.length) (w : World) (hlen : n ≤ 1000000000000) (hz : ∀ s ∈ l, s.size ≤ maxLen)
    (hq : ∀ W (k : Nat) s, l[k]? = some s → Below w.heap.size w W → Calls Tryz.prog g #[.int .i64 (k : Int), cap] W fun e w' => e = .returned (.string s) ∧ Below W.heap.size W w') :
    Calls Tryz.prog 192 #[.int .i64 (n : Int), .func (.func g) #[] #[cap]] w fun e w' => e = .returned (.bool (risesB l)) ∧ Below w.heap.size w w' := by
  have Hq := Lib.hid hq
  have Hz := Lib.hid hz
  have HN : Hid (∀ s : ByteArray, s ∈ l → ∀ W, Calls Tryz.prog 61 #[.string s] W fun e w' => e = .returned (.bool (nameB s)) ∧ Below W.heap.size W w') := fun s hs W => scanName_any s (hz s hs) W
  have HR : Hid (risesB l = (risesGo (prevAt l 0) (l.drop 0) && decide (n ≤ 128))) := by unfold Hid risesB; rw [hn]; rfl
  have Hn := Lib.hid hn
  clear hq hz hn
  generalize risesB l = R at *
  go_enter Tryz.func192, Tryz.ntmps192
  go_wp2_with fail
  go_loopw [7] (fun i wr => ∃ k : Nat, k ≤ n ∧ i = .int .i64 k ∧ Hid (R = (risesGo (prevAt l k) (l.drop k) && decide (n ≤ 128))) ∧ Below w.heap.size w wr) (fun i _ => n - (intOf i).toNat)
  case atStart => exact ⟨0, Nat.zero_le _, rfl, HR, Below.refl _ _⟩
  case round =>
    obtain ⟨k, hk, rfl, Hm, hbel⟩ := hrel
    have HB := Lib.hid hbel
    clear hbel
    by_cases hlt : k < n
    case neg =>
      obtain rfl : k = n := by omega
      have hI : ¬ (k : Int) < (k : Int) := by omega
      have Hr : Hid (R = decide (k ≤ 128)) := by unfold Hid; rw [Hm.out, risesGo_done (by rw [← Hn.out]; exact Nat.le_refl _), Bool.true_and]
      clear Hm
      by_cases h1 : k ≤ 128
      · have h1I : (k : Int) ≤ 128 := by omega
        rw [decide_eq_true h1] at Hr
        go_wp2_with fail
        go_ret
        exact ⟨ret_bL Hr.out.symm, HB.out⟩
      · have h1I : ¬ (k : Int) ≤ 128 := by omega
        rw [decide_eq_false h1] at Hr
        go_wp2_with fail
        go_ret
        exact ⟨ret_bL Hr.out.symm, HB.out⟩
    have hkI : (k : Int) < (n : Int) := by omega
    have hk0 : (0 : Int) ≤ (k : Int) := by omega
    have hkl : k < l.length := by rw [← Hn.out]; exact hlt
    obtain ⟨s, hs⟩ : ∃ s, l[k]? = some s := ⟨_, List.getElem?_eq_getElem hkl⟩
    have hsm := List.mem_of_getElem? hs
    have Hst := Lib.hid (Hm.out.trans (congrArg (· && decide (n ≤ 128)) (risesGo_step hs)))
    have Hc := Lib.hid (fun W hW => Hq.out W k s hs hW)
    have Hnm := Lib.hid (HN.out s hsm)
    have hent := fun args W => hE args W
    clear Hm
    cases hnb : nameB s with
    | false =>
      have Hr : Hid (R = false) := by unfold Hid; rw [Hst.out, hnb]; rfl
      rw [hnb] at Hnm
      clear Hst
      go_wp2_with fail
      refine (Hc.out _ HB.out).mono ?_
      rintro e w1 ⟨rfl, hb1⟩
      have HB1 := Lib.hid (bot HB.out hb1)
      clear hb1
      go_wp2_with fail
      refine (Hnm.out _).mono ?_
      rintro e w2 ⟨rfl, hb2⟩
      have HB2 := Lib.hid (bot HB1.out hb2)
      clear hb2 HB1
      go_wp2_with fail
      go_ret
      exact ⟨ret_bL Hr.out.symm, HB2.out⟩
    | true =>
    rw [hnb] at Hnm
    cases k with
    | zero =>
      have Hnx : Hid (R = (risesGo (prevAt l (0 + 1)) (l.drop (0 + 1)) && decide (n ≤ 128))) := by unfold Hid; rw [Hst.out, hnb]; rfl
      clear Hst
      go_wp2_with fail
      refine (Hc.out _ HB.out).mono ?_
      rintro e w1 ⟨rfl, hb1⟩
      have HB1 := Lib.hid (bot HB.out hb1)
      clear hb1
      go_wp2_with fail
      refine (Hnm.out _).mono ?_
      rintro e w2 ⟨rfl, hb2⟩
      have HB2 := Lib.hid (bot HB1.out hb2)
      clear hb2 HB1
      go_wp2_with fail
      go_roundw
      case rel => exact ⟨0 + 1, by omega, by go_num, Hnx, HB2.out⟩
      case measure => simp [intOf]; omega
    | succ j =>
      obtain ⟨s1, hs1⟩ : ∃ s1, l[j]? = some s1 := ⟨_, List.getElem?_eq_getElem (by omega)⟩
      have Hc1 := Lib.hid (fun W hW => Hq.out W j s1 hs1 hW)
      have Hpv : Hid (prevAt l (j + 1) = some s1) := hs1
      have hwj : IntKind.i64.wrap (((j + 1 : Nat) : Int) - 1) = (j : Int) := by rw [IntWalk.i64_in _ ⟨by omega, by omega⟩]; omega
      have hgt : (0 : Int) < ((j + 1 : Nat) : Int) := by omega
      have Hls : Hid (behind (some s1) s = Op.bytesLess s1.toList s.toList) := rfl
      rw [Hpv.out, hnb, Hls.out, Bool.true_and] at Hst
      go_wp2_with fail
      refine (Hc.out _ HB.out).mono ?_
      rintro e w1 ⟨rfl, hb1⟩
      have HB1 := Lib.hid (bot HB.out hb1)
      clear hb1
      go_wp2_with fail
      refine (Hnm.out _).mono ?_
      rintro e w2 ⟨rfl, hb2⟩
      have HB2 := Lib.hid (bot HB1.out hb2)
      clear hb2 HB1
      go_wp2_with fail
      refine (Hc1.out _ HB2.out).mono ?_
      rintro e w3 ⟨rfl, hb3⟩
      have HB3 := Lib.hid (bot HB2.out hb3)
      clear hb3 HB2
      go_wp2_with fail
      refine (Hc.out _ HB3.out).mono ?_
      rintro e w4 ⟨rfl, hb4⟩
      have HB4 := Lib.hid (bot HB3.out hb4)
      clear hb4 HB3
      cases hls : Op.bytesLess s1.toList s.toList with
      | true =>
        have Hnx : Hid (R = (risesGo (prevAt l (j + 1 + 1)) (l.drop (j + 1 + 1)) && decide (n ≤ 128))) := by unfold Hid; rw [Hst.out, hls, Bool.true_and]
        clear Hst
        go_wp2_with fail
        go_roundw
        case rel => exact ⟨j + 1 + 1, by omega, by go_num, Hnx, HB4.out⟩
        case measure => simp [intOf]; omega
      | false =>
        have Hr : Hid (R = false) := by unfold Hid; rw [Hst.out, hls]; rfl
        clear Hst
        go_wp2_with fail
        go_ret
        exact ⟨ret_bL Hr.out.symm, HB4.out⟩

theorem enters_lnode1 : Enters Tryz.prog 193 := enters_of Tryz.func193 (by kernel_rfl) rfl
set_option maxRecDepth 100000 in
theorem lnode1_any (q : Nat) (A : Option Addr) (n c : Nat) (l : List Pin) (S : Nat → Prop) (k : Nat) (s : ByteArray) (w : World) (hc : w.cell? ⟨q, 4, none⟩ = some (.slice A n c)) (hl : SlV rPin w S l (.slice A n c)) (hs : (pinNames l)[k]? = some s) :
    Calls Tryz.prog 193 #[.int .i64 (k : Int), .pointer (some ⟨q, 0, none⟩)] w fun e w' => e = .returned (.string s) ∧ Below w.heap.size w w' := by
  unfold pinNames at hs
  rw [List.getElem?_map] at hs
  obtain ⟨x, hx, rfl⟩ := Option.map_eq_some_iff.1 hs
  have hn := hl.n_eq
  have hcm := hl.cap_le
  unfold maxLen at hcm
  have hk := (List.getElem?_eq_some_iff.1 hx).1
  have hkI : (k : Int) < (n : Int) := by omega
  have hk0 : (0 : Int) ≤ (k : Int) := by omega
  obtain ⟨b, o, cs, hA, _, _, hh, hcell⟩ := hl.elem hx
  subst hA
  obtain ⟨hcs, _⟩ := hh
  have c0 := hcell 0 _ (by rw [hcs]; rfl)
  simp only [rPin, Nat.add_zero] at c0
  clear hcell hl hs
  go_enter Tryz.func193, Tryz.ntmps193
  go_wp2_with fail
  go_ret
  exact ⟨rfl, Below.refl _ _⟩

theorem enters_lnode2 : Enters Tryz.prog 194 := enters_of Tryz.func194 (by kernel_rfl) rfl
set_option maxRecDepth 100000 in
theorem lnode2_any (q : Nat) (A : Option Addr) (n c : Nat) (l : List Edge) (S : Nat → Prop) (k : Nat) (s : ByteArray) (w : World) (hc : w.cell? ⟨q, 5, none⟩ = some (.slice A n c)) (hl : SlV rEdge w S l (.slice A n c)) (hs : (edgeNames l)[k]? = some s) :
    Calls Tryz.prog 194 #[.int .i64 (k : Int), .pointer (some ⟨q, 0, none⟩)] w fun e w' => e = .returned (.string s) ∧ Below w.heap.size w w' := by
  unfold edgeNames at hs
  rw [List.getElem?_map] at hs
  obtain ⟨x, hx, rfl⟩ := Option.map_eq_some_iff.1 hs
  have hn := hl.n_eq
  have hcm := hl.cap_le
  unfold maxLen at hcm
  have hk := (List.getElem?_eq_some_iff.1 hx).1
  have hkI : (k : Int) < (n : Int) := by omega
  have hk0 : (0 : Int) ≤ (k : Int) := by omega
  obtain ⟨b, o, cs, hA, _, _, hh, hcell⟩ := hl.elem hx
  subst hA
  obtain ⟨hcs, _⟩ := hh
  have c0 := hcell 0 _ (by rw [hcs]; rfl)
  simp only [rEdge, Nat.add_zero] at c0
  clear hcell hl hs
  go_enter Tryz.func194, Tryz.ntmps194
  go_wp2_with fail
  go_ret
  exact ⟨rfl, Below.refl _ _⟩

end Go.Proofs.YthbnmehbhpakaaaGreatDoor
set_option autoImplicit false
set_option relaxedAutoImplicit false
set_option linter.unusedVariables false
set_option linter.unusedSimpArgs false
namespace Go.Proofs.YthbnmehbhpakaaaGreatDoor
open Go.Rows Go.RowKit Go.Shelf Go.Sort

theorem pinsOk_step {l : List Pin} {k : Nat} {q : Pin} (h : l[k]? = some q) : pinsOk (l.drop k) = (verOk q.ver && pinsOk (l.drop (k + 1))) := by
  obtain ⟨hk, e⟩ := List.getElem?_eq_some_iff.1 h
  unfold pinsOk
  rw [List.drop_eq_getElem_cons hk, e, List.all_cons]
theorem edgesOk_step {many : Nat} {l : List Edge} {k : Nat} {q : Edge} (h : l[k]? = some q) : edgesOk many (l.drop k) = ((decide (1 ≤ q.to) && decide (q.to < many)) && edgesOk many (l.drop (k + 1))) := by
  obtain ⟨hk, e⟩ := List.getElem?_eq_some_iff.1 h
  unfold edgesOk
  rw [List.drop_eq_getElem_cons hk, e, List.all_cons]
/-- a node's value -/
def NodeV (w : World) (S : Nat → Prop) (x : Node) (v : Value) : Prop :=
  ∃ A n c B m d, v = .agg #[.string x.name, .int .i64 x.ver.major, .int .i64 x.ver.minor, .int .i64 x.ver.patch, .slice A n c, .slice B m d] ∧ x.name.size ≤ maxLen ∧ SlV rPin w S x.ctx (.slice A n c) ∧ SlV rEdge w S x.edges (.slice B m d)
theorem NodeV.keep {w w' : World} {S : Nat → Prop} {x : Node} {v : Value} (h : NodeV w S x v) (hb : Below w.heap.size w w') : NodeV w' S x v := by
  obtain ⟨A, n, c, B, m, d, e, h0, h1, h2⟩ := h
  exact ⟨A, n, c, B, m, d, e, h0, h1.belowSize hb, h2.belowSize hb⟩

set_option maxHeartbeats 6400000 in
set_option maxRecDepth 100000 in
theorem lockNode_any (x : Node) (v : Value) (many : Nat) (hmany : many ≤ 1000000000) (w : World) (S : Nat → Prop) (hz1 : x.ctx.length ≤ 1000000000) (hz2 : x.edges.length ≤ 1000000000) (hv : NodeV w S x v) :
    Calls Tryz.prog 130 #[v, .int .i64 (many : Int)] w fun e w' => e = .returned (.bool (nodeOk many x)) ∧ Below w.heap.size w w' := by
  obtain ⟨A, n, c, B, m, d, rfl, hnm, h1, h2⟩ := hv
  have hn := h1.n_eq
  have hm := h2.n_eq
  have hcn := h1.cap_le
  have hcm := h2.cap_le
  unfold maxLen at hcn hcm
  have H1 := Lib.hid h1
  have H2 := Lib.hid h2
  have HR : Hid (nodeOk many x = (((risesB (pinNames x.ctx) && risesB (edgeNames x.edges)) && pinsOk (x.ctx.drop 0)) && edgesOk many (x.edges.drop 0))) := rfl
  have Hn := Lib.hid hn
  have Hm := Lib.hid hm
  generalize nodeOk many x = R at *
  have hpn : n = (pinNames x.ctx).length := by unfold pinNames; rw [List.length_map]; exact hn
  have hen : m = (edgeNames x.edges).length := by unfold edgeNames; rw [List.length_map]; exact hm
  have hpz : ∀ s ∈ pinNames x.ctx, s.size ≤ maxLen := fun s hs => by
    obtain ⟨q, hq, rfl⟩ := List.mem_map.1 hs
    obtain ⟨i, hi, e⟩ := List.getElem_of_mem hq
    obtain ⟨_, _, _, _, _, _, ⟨_, hz, _⟩, _⟩ := h1.elem (show x.ctx[i]? = some q by rw [List.getElem?_eq_getElem hi, e])
    exact hz
  have hez : ∀ s ∈ edgeNames x.edges, s.size ≤ maxLen := fun s hs => by
    obtain ⟨q, hq, rfl⟩ := List.mem_map.1 hs
    obtain ⟨i, hi, e⟩ := List.getElem_of_mem hq
    obtain ⟨_, _, _, _, _, _, ⟨_, hz, _⟩, _⟩ := h2.elem (show x.edges[i]? = some q by rw [List.getElem?_eq_getElem hi, e])
    exact hz
  obtain ⟨Q, hQ⟩ : ∃ Q, Q = w.heap.size := ⟨_, rfl⟩
  obtain ⟨w0, hw0⟩ : ∃ w0, w0 = w.alloc (.cells #[.string x.name, .int .i64 x.ver.major, .int .i64 x.ver.minor, .int .i64 x.ver.patch, .slice A n c, .slice B m d] 63) := ⟨_, rfl⟩
  have HB0 : Hid (Below w.heap.size w w0) := by unfold Hid; rw [hw0]; exact bal (Below.refl _ _) _
  have HQ0 : Hid (w0.heap[Q]? = some (.cells #[.string x.name, .int .i64 x.ver.major, .int .i64 x.ver.minor, .int .i64 x.ver.patch, .slice A n c, .slice B m d] 63 (0, 0))) := by unfold Hid; rw [hw0, hQ]; exact heap_new _ _
  have hq0 : Q < w0.heap.size := (Array.getElem?_eq_some_iff.1 HQ0.out).1
  have HC1 : Hid (∀ W, Below w0.heap.size w0 W → Calls Tryz.prog 192 #[.int .i64 (n : Int), .func (.func 193) #[] #[.pointer (some ⟨Q, 0, none⟩)]] W fun e w' => e = .returned (.bool (risesB (pinNames x.ctx))) ∧ Below W.heap.size W w') := fun W hW =>
    rises_any _ _ enters_lnode1 (pinNames x.ctx) n hpn W (by omega) hpz fun V k s hs hV => lnode1_any Q A n c x.ctx S k s V (cell_of_row V Q 4 _ _ _ (((hW.trans (hV.mono hW.size)).block Q hq0).trans HQ0.out)) (h1.belowSize (bot HB0.out (hW.trans (hV.mono hW.size)))) hs
  have HC2 : Hid (∀ W, Below w0.heap.size w0 W → Calls Tryz.prog 192 #[.int .i64 (m : Int), .func (.func 194) #[] #[.pointer (some ⟨Q, 0, none⟩)]] W fun e w' => e = .returned (.bool (risesB (edgeNames x.edges))) ∧ Below W.heap.size W w') := fun W hW =>
    rises_any _ _ enters_lnode2 (edgeNames x.edges) m hen W (by omega) hez fun V k s hs hV => lnode2_any Q B m d x.edges S k s V (cell_of_row V Q 5 _ _ _ (((hW.trans (hV.mono hW.size)).block Q hq0).trans HQ0.out)) (h2.belowSize (bot HB0.out (hW.trans (hV.mono hW.size)))) hs
  have q4 : w0.cell? ⟨Q, 4, none⟩ = some (.slice A n c) := cell_of_row w0 Q 4 _ _ _ HQ0.out
  have q5 : w0.cell? ⟨Q, 5, none⟩ = some (.slice B m d) := cell_of_row w0 Q 5 _ _ _ HQ0.out
  clear h1 h2 hn hm hpn hen hpz hez hz1 hz2 hnm
  generalize x.name = nm at *
  generalize x.ver.major = v1 at *
  generalize x.ver.minor = v2 at *
  generalize x.ver.patch = v3 at *
  generalize risesB (pinNames x.ctx) = r1 at *
  generalize risesB (edgeNames x.edges) = r2 at *
  subst hQ
  go_enter Tryz.func130, Tryz.ntmps130
  go_wp2_with fail
  rw [← hw0]
  clear hw0
  refine (HC1.out w0 (Below.refl _ _)).mono ?_
  rintro e w1 ⟨rfl, hb1⟩
  have HB1 := Lib.hid hb1
  have p4 := below_cell hb1 q4 hq0
  have p5 := below_cell hb1 q5 hq0
  clear hb1 HC1 q4 q5
  cases r1 with
  | false =>
    have Hr : Hid (R = false) := by unfold Hid; rw [HR.out]; first | rfl | simp
    clear HR
    go_wp2_with fail
    go_ret
    exact ⟨ret_bL Hr.out.symm, bot HB0.out HB1.out⟩
  | true =>
  go_wp2_with fail
  refine (HC2.out w1 HB1.out).mono ?_
  rintro e w2 ⟨rfl, hb2⟩
  have HB2 := Lib.hid (bot HB1.out hb2)
  have p4 := below_cell hb2 p4 (cell_lt p4)
  have p5 := below_cell hb2 p5 (cell_lt p5)
  clear hb2 HC2 HB1
  cases r2 with
  | false =>
    have Hr : Hid (R = false) := by unfold Hid; rw [HR.out]; first | rfl | simp
    clear HR
    go_wp2_with fail
    go_ret
    exact ⟨ret_bL Hr.out.symm, bot HB0.out HB2.out⟩
  | true =>
  have HR2 : Hid (R = (pinsOk (x.ctx.drop 0) && edgesOk many (x.edges.drop 0))) := by unfold Hid; rw [HR.out]; simp
  clear HR
  go_wp2_with fail
  go_loopw [26] (fun i wr => ∃ k : Nat, k ≤ n ∧ i = .int .i64 k ∧ Hid (R = (pinsOk (x.ctx.drop k) && edgesOk many (x.edges.drop 0))) ∧ Hid (Below w0.heap.size w0 wr)) (fun i _ => n - (intOf i).toNat)
  case atStart => exact ⟨0, Nat.zero_le _, rfl, HR2, HB2⟩
  case round =>
    clear HR2 HB2 p4 p5
    obtain ⟨k, hk, rfl, HR, HB⟩ := hrel
    have HQr : Hid (wr.heap[w.heap.size]? = some (.cells #[.string nm, .int .i64 v1, .int .i64 v2, .int .i64 v3, .slice A n c, .slice B m d] 63 (0, 0))) := (HB.out.block w.heap.size hq0).trans HQ0.out
    have p5 : wr.cell? ⟨w.heap.size, 5, none⟩ = some (.slice B m d) := cell_of_row wr w.heap.size 5 _ _ _ HQr.out
    have hk0 : (0 : Int) ≤ (k : Int) := by omega
    by_cases hlt : k < n
    · have hkI : (k : Int) < (n : Int) := by omega
      have hkl : k < x.ctx.length := by rw [← Hn.out]; exact hlt
      obtain ⟨y, hy⟩ : ∃ y, x.ctx[k]? = some y := ⟨_, List.getElem?_eq_getElem hkl⟩
      have h3 := HR.out
      rw [pinsOk_step hy] at h3
      obtain ⟨b, o, cs, hA, _, _, ⟨hcs, _⟩, hcell⟩ := (H1.out.belowSize (bot HB0.out HB.out)).elem hy
      subst hA
      have c0 := hcell 0 _ (by rw [hcs]; rfl)
      have c1 := hcell 1 _ (by rw [hcs]; rfl)
      have c2 := hcell 2 _ (by rw [hcs]; rfl)
      have c3 := hcell 3 _ (by rw [hcs]; rfl)
      simp only [rPin, Nat.add_zero] at c0 c1 c2 c3
      have HV : Hid (∀ W, Calls Tryz.prog 129 #[.agg #[.int .i64 y.ver.major, .int .i64 y.ver.minor, .int .i64 y.ver.patch]] W fun e w' => e = .returned (.bool (verOk y.ver)) ∧ Below W.heap.size W w') := fun W => versMay_any _ _ _ W
      have HR3 := Lib.hid h3
      clear hcell hcs hy h3 HR
      generalize verOk y.ver = vo at *
      go_wp2_with fail
      refine (HV.out _).mono ?_
      rintro e w5 ⟨rfl, hb5⟩
      have HB5 := Lib.hid (bot HB.out (bnew hb5))
      clear hb5 c0 c1 c2 c3 p5 HV
      cases vo with
      | false =>
        have Hr : Hid (R = false) := by unfold Hid; rw [HR3.out]; rfl
        clear HR3
        go_wp2_with fail
        go_ret
        exact ⟨ret_bL Hr.out.symm, bot HB0.out HB5.out⟩
      | true =>
        rw [Bool.true_and] at HR3
        go_wp2_with fail
        go_roundw
        case rel => exact ⟨k + 1, by omega, by go_num, HR3, HB5⟩
        case measure => simp [intOf]; omega
    · obtain rfl : k = n := by omega
      have hI : ¬ (k : Int) < (k : Int) := by omega
      have HR3 : Hid (R = edgesOk many (x.edges.drop 0)) := by unfold Hid; rw [HR.out, List.drop_eq_nil_of_le (by rw [← Hn.out]; exact Nat.le_refl _)]; rfl
      obtain ⟨wo, rfl⟩ : ∃ wo : World, wo = wr := ⟨_, rfl⟩
      clear HR
      go_wp2_with fail
      go_loopw [38] (fun i wq => ∃ j : Nat, j ≤ m ∧ i = .int .i64 j ∧ Hid (R = edgesOk many (x.edges.drop j)) ∧ Hid (Below w0.heap.size w0 wq)) (fun i _ => m - (intOf i).toNat)
      case atStart => exact ⟨0, Nat.zero_le _, rfl, HR3, HB⟩
      case round =>
        clear HR3 HB p5 HQr
        obtain ⟨j, hj, rfl, HR, HB⟩ := hrel
        have hj0 : (0 : Int) ≤ (j : Int) := by omega
        by_cases hjt : j < m
        · have hjI : (j : Int) < (m : Int) := by omega
          have hjl : j < x.edges.length := by rw [← Hm.out]; exact hjt
          obtain ⟨y, hy⟩ : ∃ y, x.edges[j]? = some y := ⟨_, List.getElem?_eq_getElem hjl⟩
          have h3 := HR.out
          rw [edgesOk_step hy] at h3
          obtain ⟨b, o, cs, hA, _, _, ⟨hcs, _⟩, hcell⟩ := (H2.out.belowSize (bot HB0.out HB.out)).elem hy
          subst hA
          have c0 := hcell 0 _ (by rw [hcs]; rfl)
          have c1 := hcell 1 _ (by rw [hcs]; rfl)
          simp only [rEdge, Nat.add_zero] at c0 c1
          have HR3 := Lib.hid h3
          clear hcell hcs hy h3 HR
          generalize y.to = tz at *
          by_cases ha : 1 ≤ tz
          · have hac : ¬ tz < 1 := by omega
            by_cases hb : tz < (many : Int)
            · have hbc : ¬ (many : Int) ≤ tz := by omega
              rw [decide_eq_true ha, decide_eq_true hb, Bool.true_and, Bool.true_and] at HR3
              go_wp2_with fail
              go_roundw
              case rel => exact ⟨j + 1, by omega, by go_num, HR3, bal HB.out _⟩
              case measure => simp [intOf]; omega
            · have hbc : (many : Int) ≤ tz := by omega
              have Hr : Hid (R = false) := by unfold Hid; rw [HR3.out, decide_eq_false hb]; simp
              clear HR3
              go_wp2_with fail
              go_ret
              exact ⟨ret_bL Hr.out.symm, bot HB0.out (bal HB.out _)⟩
          · have hac : tz < 1 := by omega
            have Hr : Hid (R = false) := by unfold Hid; rw [HR3.out, decide_eq_false ha]; rfl
            clear HR3
            go_wp2_with fail
            go_ret
            exact ⟨ret_bL Hr.out.symm, bot HB0.out (bal HB.out _)⟩
        · obtain rfl : j = m := by omega
          have hI2 : ¬ (j : Int) < (j : Int) := by omega
          have Hr : Hid (R = true) := by unfold Hid; rw [HR.out, List.drop_eq_nil_of_le (by rw [← Hm.out]; exact Nat.le_refl _)]; rfl
          clear HR
          go_wp2_with fail
          go_ret
          exact ⟨ret_bL Hr.out.symm, bot HB0.out HB.out⟩
end Go.Proofs.YthbnmehbhpakaaaGreatDoor
