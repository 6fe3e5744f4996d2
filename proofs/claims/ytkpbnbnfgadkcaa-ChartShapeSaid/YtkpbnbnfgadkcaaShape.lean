/-
  The law ChartShape: turning and flipping keep how far any two points are from one another, and the frame its sides.
-/
import Derived.Test.YtkpbnbnfgadkcaaShapeP
import Derived.Test.YtkpbnbnfgadkcaaMovesA
namespace Go.Proofs.Ytkpbnbnfgadkcaa
open Go.RowKit
set_option linter.unusedVariables false
set_option linter.unusedSimpArgs false

theorem turn_ok (A : Option Addr) (n c : Nat) (q : Int) (l : List Spot) (w : World) (S : Nat → Prop) (hf : Fine l) (hq : I64 q) (hl : SlV rSpot w S l (.slice A n c)) :
    Calls Try.prog 10 #[.slice A n c, .int .i64 q] w fun e w' => ∃ v, e = .returned (.tuple #[v, .int .i64 0]) ∧ SlV rSpot w' (fun _ => True) (l.map (turnF q)) v ∧ Below w.heap.size w w' :=
  (chTurn_any A n c q l w S hf.2.1 hf.2.2 hq hl).mono fun e w' h => by
    have : turnR l q = some (l.map (turnF q)) := by simp [turnR, hf.1]
    rw [this] at h
    exact h
theorem fine_turn {l : List Spot} (hf : Fine l) (q : Int) : Fine (l.map (turnF q)) :=
  fine_map hf _ (fun _ => rfl) fun s hs => by
    obtain ⟨h1, h2⟩ := (mayB_far hf.1).2 s hs
    exact quart_far h1 h2 _
theorem box_four (A : Option Addr) (n c : Nat) (l : List Spot) (w : World) (S : Nat → Prop) (hf : Fine l) (hl : SlV rSpot w S l (.slice A n c)) :
    Calls Try.prog 18 #[.slice A n c] w fun e w' => e = .returned (.tuple #[.agg #[.int .i64 (lo (·.x) l), .int .i64 (lo (·.y) l), .int .i64 (hi (·.x) l), .int .i64 (hi (·.y) l)], .int .i64 0]) ∧ Below w.heap.size w w' :=
  box_ok A n c l w S (by have := hl.n_eq; have := hf.2.1; omega) hf.1 hl

set_option maxRecDepth 100000 in
theorem shape_no (A : Option Addr) (n c : Nat) (q : Int) (l : List Spot) (w : World) (S : Nat → Prop) (hn63 : n ≤ 9223372036854775807) (h : mayB l = false ∨ 40 < l.length) (hl : SlV rSpot w S l (.slice A n c)) :
    Calls Try.prog 5 #[.slice A n c, .int .i64 q] w fun e w' => e = .returned (.bool true) ∧ Below w.heap.size w w' := by
  have hnx := hl.n_eq
  have Hc : Hid (∀ W, Below w.heap.size w W → Calls Try.prog 15 #[.slice A n c] W fun e w' => e = .returned (.bool (mayB l)) ∧ W = w') := fun W hW => refMay_any A n c l W _ hn63 (hl.belowSize hW)
  clear hl
  by_cases hm : mayB l = true
  · have hlong : 40 < n := by
      rcases h with h | h
      · rw [hm] at h; cases h
      · omega
    rw [hm] at Hc
    clear h hm hnx
    go_enter Try.func5, Try.ntmps5
    go_wp2_with fail
    refine (known_any w).mono ?_
    rintro e w1 ⟨rfl, hb1⟩
    go_wp2_with fail
    refine (Hc.out w1 hb1).mono ?_
    rintro e w2 ⟨rfl, rfl⟩
    go_wp2
    go_ret
    exact ⟨rfl, hb1⟩
  · rw [Bool.not_eq_true] at hm
    rw [hm] at Hc
    clear h hm hnx
    go_enter Try.func5, Try.ntmps5
    go_wp2_with fail
    refine (known_any w).mono ?_
    rintro e w1 ⟨rfl, hb1⟩
    go_wp2_with fail
    refine (Hc.out w1 hb1).mono ?_
    rintro e w2 ⟨rfl, rfl⟩
    go_wp2
    go_ret
    exact ⟨rfl, hb1⟩

set_option maxRecDepth 100000 in
set_option maxHeartbeats 4000000 in
theorem shape_yes (A : Option Addr) (n c : Nat) (q : Int) (l : List Spot) (w : World) (S : Nat → Prop) (hf : Fine l) (h40 : l.length ≤ 40) (hq : I64 q) (hl : SlV rSpot w S l (.slice A n c)) :
    Calls Try.prog 5 #[.slice A n c, .int .i64 q] w fun e w' => e = .returned (.bool true) ∧ Below w.heap.size w w' := by
  have hnx := hl.n_eq
  have hn40 : n ≤ 40 := by omega
  have Hnx := Lib.hid hnx; clear hnx
  have Hf := Lib.hid hf; clear hf
  have Hq := Lib.hid hq; clear hq
  have Hl : Hid (∀ W, Below w.heap.size w W → SlV rSpot W (fun b => b < w.heap.size) l (.slice A n c)) := fun W hW => (hl.more (fun b _ h => h)).below hW (fun b h => h)
  clear hl h40
  go_enter Try.func5, Try.ntmps5
  go_wp2_with fail
  refine (known_any w).mono ?_
  rintro e w1 ⟨rfl, hb1⟩
  go_wp2_with fail
  refine (refMay_any A n c l w1 _ (by omega) (Hl.out w1 hb1)).mono ?_
  rintro e w2 ⟨rfl, rfl⟩
  rw [Hf.out.1]
  go_wp2_with fail
  go_loop [5] (fun i => ∃ k : Nat, k ≤ n ∧ i = .int .i64 k ∧ Hid (∀ s ∈ l.take k, nearB s = true)) (fun i => n - (intOf i).toNat)
  case atStart => exact ⟨0, Nat.zero_le _, rfl, by simp [Hid]⟩
  case round =>
    obtain ⟨k, hk, rfl, hnear⟩ := hrel
    by_cases hlt : k < n
    · have hkx : k < l.length := by have := Hnx.out; omega
      obtain ⟨pb, po, cs, hA, hSb, hb, hsp, hcell⟩ := (Hl.out w1 hb1).elem (List.getElem?_eq_getElem hkx)
      subst hA
      obtain ⟨p, rfl, hp, hx, hy⟩ := hsp
      have hc1 := hcell 1 _ rfl
      have hc2 := hcell 2 _ rfl
      simp only [rSpot, Nat.add_zero] at hc1 hc2
      clear hp hcell hx hy
      have hnx : nearB l[k] = true → ∀ s ∈ l.take (k + 1), nearB s = true := fun h s hs => by
        rw [List.take_succ_eq_append_getElem hkx, List.mem_append] at hs
        rcases hs with hs | hs
        · exact hnear.out s hs
        · simp at hs; subst hs; exact h
      have Hn := Lib.hid hnx; clear hnx
      have hkn : (k : Int) < (n : Int) := by omega
      generalize l[k] = s at *
      obtain ⟨path, x, y⟩ := s
      simp only at hc1 hc2
      have hs' : x < -1048576 ∨ (¬ x < -1048576 ∧ 1048576 < x) ∨ (¬ x < -1048576 ∧ ¬ 1048576 < x ∧ y < -1048576) ∨ (¬ x < -1048576 ∧ ¬ 1048576 < x ∧ ¬ y < -1048576 ∧ 1048576 < y) ∨ (¬ x < -1048576 ∧ ¬ 1048576 < x ∧ ¬ y < -1048576 ∧ ¬ 1048576 < y) := by omega
      rcases hs' with q1 | ⟨q1, q2⟩ | ⟨q1, q2, q3⟩ | ⟨q1, q2, q3, q4⟩ | ⟨q1, q2, q3, q4⟩
      · go_wp2; go_ret; exact ⟨rfl, hb1⟩
      · go_wp2; go_ret; exact ⟨rfl, hb1⟩
      · go_wp2; go_ret; exact ⟨rfl, hb1⟩
      · go_wp2; go_ret; exact ⟨rfl, hb1⟩
      · have hno : Hid (nearB ⟨path, x, y⟩ = true) := by simp [Hid, nearB]; omega
        go_wp2
        go_round
        case rel => exact ⟨k + 1, by omega, by go_num, Hn.out hno.out⟩
        case measure => simp [intOf]; omega
    · have hkn : k = l.length := by have := Hnx.out; omega
      have hall : ∀ s ∈ l, nearB s = true := by have := hnear.out; rwa [hkn, List.take_length] at this
      have Hall := Lib.hid hall; clear hall hnear hkn
      go_wp2_with fail
      refine (given_any A n c l w1 _ Hf.out.2.1 (Hl.out w1 hb1)).mono ?_
      rintro e w2 ⟨v1, rfl, hv1, hb2⟩
      obtain ⟨A1, c1, rfl, _, _⟩ := hv1.val
      have hB2 : Below w.heap.size w w2 := hb1.trans (hb2.mono hb1.size)
      rw [← Hnx.out] at hv1 ⊢
      have Hv1 := Lib.hid hv1
      clear hv1 hb2 hb1
      go_wp2_with fail
      refine (turn_ok A1 n c1 q l w2 _ Hf.out Hq.out Hv1.out).mono ?_
      rintro e w3 ⟨v2, rfl, hv2, hb3⟩
      obtain ⟨A2, c2, rfl, _, _⟩ := hv2.val
      have hB3 : Below w.heap.size w w3 := hB2.trans (hb3.mono hB2.size)
      have hlen : (l.map (turnF q)).length = n := by rw [List.length_map]; exact Hnx.out.symm
      rw [hlen] at hv2 ⊢
      have Hv2 := Lib.hid hv2
      clear hlen hb3 hB2 hv2 Hv1
      go_wp2_with fail
      refine (flip_ok A2 n c2 _ w3 _ (fine_turn Hf.out q) Hv2.out).mono ?_
      rintro e w4 ⟨v3, rfl, hv3, hb4⟩
      obtain ⟨A3, c3, rfl, _, _⟩ := hv3.val
      have hB4 : Below w.heap.size w w4 := hB3.trans (hb4.mono hB3.size)
      have hmm : (l.map (turnF q)).map flipF = l.map (shapeF q) := by rw [List.map_map]; rfl
      rw [hmm] at hv3 ⊢
      have hlen : (l.map (shapeF q)).length = n := by rw [List.length_map]; exact Hnx.out.symm
      rw [hlen] at hv3 ⊢
      have Hv3 := Lib.hid hv3
      have Hfs : Hid (Fine (l.map (shapeF q))) := by have := fine_flip (fine_turn Hf.out q); rw [hmm] at this; exact this
      clear hlen hb4 hB3 hv3 Hv2 hmm
      go_wp2_with fail
      clear hlt hk
      go_loopw [10] (fun i wr => ∃ m : Nat, m ≤ n ∧ i = .int .i64 m ∧ Hid (∃ d, wr = w4.drewN d)) (fun i _ => n - (intOf i).toNat)
      case atStart => exact ⟨0, Nat.zero_le _, rfl, ⟨0, rfl⟩⟩
      case round =>
        obtain ⟨m, hm, rfl, hdr⟩ := hrel
        by_cases hlt : m < n
        · go_wp2_with fail
          obtain ⟨wo, hwo⟩ : ∃ wo : World, wo = wr := ⟨_, rfl⟩
          subst hwo
          go_loopw [11] (fun j wi => ∃ r : Nat, r ≤ m ∧ j = .int .i64 r ∧ Hid (∃ d, wi = w4.drewN d)) (fun j _ => m - (intOf j).toNat)
          case atStart => exact ⟨0, Nat.zero_le _, rfl, hdr⟩
          case round =>
            obtain ⟨r, hr, rfl, hdi⟩ := hrel
            by_cases hlr : r < m
            · have hBr : Below w.heap.size w wr := by obtain ⟨d, e⟩ := hdi.out; rw [e]; exact ⟨hB4.os, hB4.tape, hB4.output, hB4.size, hB4.block⟩
              have hv3 : SlV rSpot wr (fun _ => True) (l.map (shapeF q)) (.slice A3 n c3) := by obtain ⟨d, e⟩ := hdi.out; rw [e]; exact Hv3.out.drewN d
              have hmx : m < l.length := by have := Hnx.out; omega
              have hrx : r < l.length := by have := Hnx.out; omega
              obtain ⟨b1, o1, cs, hA1, _, _, hsp, hcell⟩ := (Hl.out wr hBr).elem (List.getElem?_eq_getElem hmx)
              obtain ⟨p, rfl, _, _, _⟩ := hsp
              have hc1 := hcell 1 _ rfl
              have hc2 := hcell 2 _ rfl
              obtain ⟨b1', o1', cs, hA1', _, _, hsp, hcell⟩ := (Hl.out wr hBr).elem (List.getElem?_eq_getElem hrx)
              obtain ⟨p', rfl, _, _, _⟩ := hsp
              have hc3 := hcell 1 _ rfl
              have hc4 := hcell 2 _ rfl
              obtain ⟨b2, o2, cs, hA2, _, _, hsp, hcell⟩ := hv3.elem (i := m) (x := shapeF q l[m]) (by rw [List.getElem?_map, List.getElem?_eq_getElem hmx]; rfl)
              obtain ⟨p3, rfl, _, _, _⟩ := hsp
              have hd1 := hcell 1 _ rfl
              have hd2 := hcell 2 _ rfl
              obtain ⟨b2', o2', cs, hA2', _, _, hsp, hcell⟩ := hv3.elem (i := r) (x := shapeF q l[r]) (by rw [List.getElem?_map, List.getElem?_eq_getElem hrx]; rfl)
              obtain ⟨p4, rfl, _, _, _⟩ := hsp
              have hd3 := hcell 1 _ rfl
              have hd4 := hcell 2 _ rfl
              rw [hA1] at hA1'
              rw [hA2] at hA2'
              injection hA1' with hA1'
              injection hA2' with hA2'
              injection hA1' with ea eb
              injection hA2' with ec ed
              subst ea eb ec ed hA1 hA2
              simp only [rSpot, Nat.add_zero] at hc1 hc2 hc3 hc4 hd1 hd2 hd3 hd4
              obtain ⟨m1, m2, m3, m4, m5⟩ := shape_wraps q (Hall.out l[m] (List.getElem_mem hmx)) (Hall.out l[r] (List.getElem_mem hrx))
              obtain ⟨n1, n2, n3, n4, n5⟩ := shape_wraps q (shape_near q (Hall.out l[m] (List.getElem_mem hmx))) (shape_near q (Hall.out l[r] (List.getElem_mem hrx)))
              have hne := shape_far q l[m] l[r]
              have hne' : (((l[m]).x - (l[r]).x) * ((l[m]).x - (l[r]).x) + ((l[m]).y - (l[r]).y) * ((l[m]).y - (l[r]).y) != ((shapeF q l[m]).x - (shapeF q l[r]).x) * ((shapeF q l[m]).x - (shapeF q l[r]).x) + ((shapeF q l[m]).y - (shapeF q l[r]).y) * ((shapeF q l[m]).y - (shapeF q l[r]).y)) = false := by rw [hne]; simp
              clear hcell hv3 hne
              have hmn : (m : Int) < (n : Int) := by omega
              have hrn : (r : Int) < (n : Int) := by omega
              have hrm : (r : Int) < (m : Int) := by omega
              generalize (shapeF q l[m]).x = X1 at *
              generalize (shapeF q l[m]).y = Y1 at *
              generalize (shapeF q l[r]).x = X2 at *
              generalize (shapeF q l[r]).y = Y2 at *
              generalize (l[m]).x = x1 at *
              generalize (l[m]).y = y1 at *
              generalize (l[r]).x = x2 at *
              generalize (l[r]).y = y2 at *
              go_wp2_with fail
              go_quiet (fail)
              go_wp2_with fail
              go_quiet (fail)
              go_wp2_with fail
              go_quiet (fail)
              go_wp2_with fail
              go_quiet (fail)
              go_wp2_with fail
              go_roundw
              case rel => exact ⟨r + 1, by omega, by go_num, by obtain ⟨d, e⟩ := hdi.out; exact ⟨_, by rw [e, World.drewN_drewN]⟩⟩
              case measure => simp [intOf]; omega
            · go_wp2_with fail
              go_roundw
              case rel => exact ⟨m + 1, by omega, by go_num, hdi⟩
              case measure => simp [intOf]; omega
        · have hBr : Below w.heap.size w wr := by obtain ⟨d, e⟩ := hdr.out; rw [e]; exact ⟨hB4.os, hB4.tape, hB4.output, hB4.size, hB4.block⟩
          have hv3 : SlV rSpot wr (fun _ => True) (l.map (shapeF q)) (.slice A3 n c3) := by obtain ⟨d, e⟩ := hdr.out; rw [e]; exact Hv3.out.drewN d
          have Hv3r := Lib.hid hv3
          clear hv3
          go_wp2_with fail
          clear hlt hm hB4 hdr
          refine (given_any A n c l wr _ Hf.out.2.1 (Hl.out wr hBr)).mono ?_
          rintro e w5 ⟨v5, rfl, hv5, hb5⟩
          have hB5 : Below w.heap.size w w5 := hBr.trans (hb5.mono hBr.size)
          obtain ⟨A5, c5, rfl, _, _⟩ := hv5.val
          rw [← Hnx.out] at hv5 ⊢
          have Hv5 := Lib.hid hv5
          have Hv3s := Lib.hid (Hv3r.out.belowSize hb5)
          clear hv5 hb5 hBr Hv3r
          go_wp2_with fail
          refine (box_four A5 n c5 l w5 _ Hf.out Hv5.out).mono ?_
          rintro e w6 ⟨rfl, hb6⟩
          have hB6 : Below w.heap.size w w6 := hB5.trans (hb6.mono hB5.size)
          have Hv3t := Lib.hid (Hv3s.out.belowSize hb6)
          have hnx' : ∀ s ∈ l, -1048576 ≤ s.x ∧ s.x ≤ 1048576 := fun s hs => by have := Hall.out s hs; simp [nearB] at this; omega
          have hny' : ∀ s ∈ l, -1048576 ≤ s.y ∧ s.y ≤ 1048576 := fun s hs => by have := Hall.out s hs; simp [nearB] at this; omega
          have hmx' : ∀ s ∈ l.map (shapeF q), -1048576 ≤ s.x ∧ s.x ≤ 1048576 := fun s hs => by
            obtain ⟨s', h1, rfl⟩ := List.mem_map.1 hs
            have := shape_near q (Hall.out s' h1); simp [nearB] at this; omega
          have hmy' : ∀ s ∈ l.map (shapeF q), -1048576 ≤ s.y ∧ s.y ≤ 1048576 := fun s hs => by
            obtain ⟨s', h1, rfl⟩ := List.mem_map.1 hs
            have := shape_near q (Hall.out s' h1); simp [nearB] at this; omega
          obtain ⟨⟨i1, i2⟩, i3, i4⟩ := lo_in (g := fun s => s.x) (by decide) hnx'
          obtain ⟨⟨i5, i6⟩, i7, i8⟩ := lo_in (g := fun s => s.y) (by decide) hny'
          obtain ⟨⟨j1, j2⟩, j3, j4⟩ := lo_in (g := fun s => s.x) (by decide) hmx'
          obtain ⟨⟨j5, j6⟩, j7, j8⟩ := lo_in (g := fun s => s.y) (by decide) hmy'
          have hspan := shape_span q l
          unfold span at hspan
          have HB2 : Hid (∀ o, Calls Try.prog 18 #[.slice A3 n c3] (w6.alloc o) fun e w' => e = .returned (.tuple #[.agg #[.int .i64 (lo (·.x) (l.map (shapeF q))), .int .i64 (lo (·.y) (l.map (shapeF q))), .int .i64 (hi (·.x) (l.map (shapeF q))), .int .i64 (hi (·.y) (l.map (shapeF q)))], .int .i64 0]) ∧ Below (w6.alloc o).heap.size (w6.alloc o) w') :=
            fun o => box_four A3 n c3 _ (w6.alloc o) _ Hfs.out (Hv3t.out.alloc o)
          clear hb6 hB5 Hv3s Hv3t Hv5 hnx' hny' hmx' hmy'
          generalize lo (fun s => s.x) (l.map (shapeF q)) = b0 at *
          generalize lo (fun s => s.y) (l.map (shapeF q)) = b1 at *
          generalize hi (fun s => s.x) (l.map (shapeF q)) = b2 at *
          generalize hi (fun s => s.y) (l.map (shapeF q)) = b3 at *
          generalize lo (fun s => s.x) l = a0 at *
          generalize lo (fun s => s.y) l = a1 at *
          generalize hi (fun s => s.x) l = a2 at *
          generalize hi (fun s => s.y) l = a3 at *
          have Hspan := Lib.hid hspan; clear hspan
          by_cases hpar : q.tmod 2 = 0
          · have hp : (q.tmod 2 != 0) = false := by simp [hpar]
            have k1 : ((b2 - b0) == (a2 - a0)) = true := by simp [(Hspan.out.1 hpar).1]
            have k2 : ((b3 - b1) == (a3 - a1)) = true := by simp [(Hspan.out.1 hpar).2]
            clear hpar
            go_wp2_with fail
            refine (HB2.out _).mono ?_
            rintro e w7 ⟨rfl, hb7⟩
            have hz7 := hb7.size
            have d0 := hb7.cell (p := ⟨w6.heap.size, 0, none⟩) (by simp)
            have d1 := hb7.cell (p := ⟨w6.heap.size, 1, none⟩) (by simp)
            have d2 := hb7.cell (p := ⟨w6.heap.size, 2, none⟩) (by simp)
            have d3 := hb7.cell (p := ⟨w6.heap.size, 3, none⟩) (by simp)
            simp [go_sem] at d0 d1 d2 d3 hz7
            have hh7 := fun o => Below.heap_alloc w7 o w6.heap.size (by omega)
            have D0 := fun o => (cell_same (hh7 o) 0 none).trans d0
            have D1 := fun o => (cell_same (hh7 o) 1 none).trans d1
            have D2 := fun o => (cell_same (hh7 o) 2 none).trans d2
            have D3 := fun o => (cell_same (hh7 o) 3 none).trans d3
            clear hh7
            go_wp2_with fail
            go_ret
            exact ⟨rfl, ((hB6.alloc hB6.size _).trans (hb7.mono (by simp; have := hB6.size; omega))).alloc (by have := hB6.size; omega) _⟩
          · have hp : (q.tmod 2 != 0) = true := by simp [hpar]
            have k1 : ((b2 - b0) == (a3 - a1)) = true := by simp [(Hspan.out.2 hpar).1]
            have k2 : ((b3 - b1) == (a2 - a0)) = true := by simp [(Hspan.out.2 hpar).2]
            clear hpar
            go_wp2_with fail
            refine (HB2.out _).mono ?_
            rintro e w7 ⟨rfl, hb7⟩
            have hz7 := hb7.size
            have d0 := hb7.cell (p := ⟨w6.heap.size, 0, none⟩) (by simp)
            have d1 := hb7.cell (p := ⟨w6.heap.size, 1, none⟩) (by simp)
            have d2 := hb7.cell (p := ⟨w6.heap.size, 2, none⟩) (by simp)
            have d3 := hb7.cell (p := ⟨w6.heap.size, 3, none⟩) (by simp)
            simp [go_sem] at d0 d1 d2 d3 hz7
            have hh7 := fun o => Below.heap_alloc w7 o w6.heap.size (by omega)
            have D0 := fun o => (cell_same (hh7 o) 0 none).trans d0
            have D1 := fun o => (cell_same (hh7 o) 1 none).trans d1
            have D2 := fun o => (cell_same (hh7 o) 2 none).trans d2
            have D3 := fun o => (cell_same (hh7 o) 3 none).trans d3
            clear hh7
            go_wp2_with fail
            go_ret
            exact ⟨rfl, ((hB6.alloc hB6.size _).trans (hb7.mono (by simp; have := hB6.size; omega))).alloc (by have := hB6.size; omega) _⟩

theorem shape_any (A : Option Addr) (n c : Nat) (q : Int) (l : List Spot) (w : World) (S : Nat → Prop) (hreach : l.length * 40 ≤ 140737488351232)
    (hpath : ∀ s ∈ l, s.path.length * 16 ≤ 140737488351232) (hq : I64 q) (hl : SlV rSpot w S l (.slice A n c)) :
    Calls Try.prog 5 #[.slice A n c, .int .i64 q] w fun e w' => e = .returned (.bool true) ∧ Below w.heap.size w w' := by
  have hnx := hl.n_eq
  by_cases h : mayB l = true ∧ l.length ≤ 40
  · exact shape_yes A n c q l w S ⟨h.1, hreach, hpath⟩ h.2 hq hl
  · refine shape_no A n c q l w S (by omega) ?_ hl
    by_cases hm : mayB l = true
    · right; have : ¬ l.length ≤ 40 := fun h' => h ⟨hm, h'⟩; omega
    · left; simpa using hm
end Go.Proofs.Ytkpbnbnfgadkcaa
