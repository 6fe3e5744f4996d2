/-
  The document's Map.
-/
import Derived.Test.YthbnmehbhpakaaaGreatDoorTl32
import Derived.Test.YthbnmehbhpakaaaGreatDoorTl24
import Derived.Deep.RegionHeld3
set_option autoImplicit false
set_option relaxedAutoImplicit false
set_option linter.unusedVariables false
set_option linter.unusedSimpArgs false
namespace Go.Proofs.YthbnmehbhpakaaaGreatDoor
open Go.Rows Go.RowKit Go.Shelf Go.Sort

structure MapAt2 (w0 wr : World) (gm km cm n gl g2 k2 c2 : Nat) (m : List Int) (rl : List Nat) (p : Nat) : Prop where
  m_ : IRow wr w0.heap.size gm km cm m
  r_ : IRow wr w0.heap.size g2 k2 c2 (castN rl)
  ne : g2 ≠ gm
  inv : MInv n gl (m, rl.drop p)
  sum : freeN m + rl.length ≤ n
  bel : Below w0.heap.size w0 wr
theorem MapAt2.keep {w0 w1 w2 : World} {gm km cm n gl g2 k2 c2 : Nat} {m : List Int} {rl : List Nat} {p : Nat} (h : MapAt2 w0 w1 gm km cm n gl g2 k2 c2 m rl p) (hb : Below w1.heap.size w1 w2) : MapAt2 w0 w2 gm km cm n gl g2 k2 c2 m rl p :=
  ⟨h.m_.keep hb, h.r_.keep hb, h.ne, h.inv, h.sum, bot h.bel hb⟩
theorem MapAt2.next {w0 w1 : World} {gm km cm n gl g2 k2 c2 a : Nat} {m : List Int} {rl : List Nat} {p : Nat} (h : MapAt2 w0 w1 gm km cm n gl g2 k2 c2 m rl p) (hd : rl.drop p = a :: rl.drop (p + 1)) : MapAt2 w0 w1 gm km cm n gl g2 k2 c2 m rl (p + 1) :=
  ⟨h.m_, h.r_, h.ne, ⟨h.inv.len, h.inv.rng, fun r hr => h.inv.rest r (by show r ∈ rl.drop p; rw [hd]; exact List.mem_cons_of_mem _ hr)⟩, h.sum, h.bel⟩
/-- the map's start, as it is laid: one 0 and then one -1 after the other -/
def started (k : Nat) : List Int := 0 :: List.replicate (k - 1) (-1)
theorem started_next {k : Nat} (h : 1 ≤ k) : started k ++ [-1] = started (k + 1) := by
  unfold started
  rw [List.cons_append, ← List.replicate_succ', show k + 1 - 1 = k - 1 + 1 by omega]
theorem started_len {k : Nat} (h : 1 ≤ k) : (started k).length = k := by simp [started]; omega
theorem drop_push {rl : List Nat} {p q : Nat} (h : p ≤ rl.length) : (rl ++ [q]).drop p = rl.drop p ++ [q] := by rw [List.drop_append_of_le_length h]

set_option maxHeartbeats 6400000 in
set_option maxRecDepth 100000 in
theorem refMap_any (A B : Option Addr) (n c m d : Nat) (xs : List Dir) (gs : List Node) (w : World) (S T : Nat → Prop) (hlen : ∀ d ∈ xs, d.path.length * 32 ≤ 140737488355328) (hx : SlV rDir w S xs (.slice A n c)) (hg : SlV rNode w T gs (.slice B m d)) :
    Calls Tryz.prog 52 #[.agg #[.slice A n c], .agg #[.slice B m d]] w fun e w' =>
      (∃ v, e = .returned (.tuple #[v, .int .i64 (mapR xs gs).2]) ∧ SlV rInt w' (fun b => w.heap.size ≤ b) ((mapR xs gs).1.getD []) v) ∧ Below w.heap.size w w' := by
  have hnx := hx.n_eq
  have hmg := hg.n_eq
  have hcx := hx.cap_le
  have hcg := hg.cap_le
  unfold maxLen at hcx hcg
  have hn63 : n ≤ 9223372036854775807 := by omega
  have hm63 : m ≤ 9223372036854775807 := by omega
  have HX := Lib.hid (hx.more (S' := fun b => b < w.heap.size) fun b _ h => h)
  have HG := Lib.hid (hg.more (S' := fun b => b < w.heap.size) fun b _ h => h)
  have Hck : Hid (∀ W, Below w.heap.size w W → Calls Tryz.prog 115 #[.agg #[.slice A n c]] W fun e w' => e = .returned (.int .i64 (checkE xs)) ∧ Below W.heap.size W w') := fun W hW => refCheck_any A n c xs W _ hlen (hx.belowSize hW)
  have Hlk : Hid (∀ (i : Int) (s : ByteArray), s.size ≤ maxLen → ∀ W, Below w.heap.size w W → Calls Tryz.prog 116 #[.agg #[.slice A n c], .int .i64 i, .string s] W fun e w' => e = .returned (.int .i64 (lookI xs i s)) ∧ Below W.heap.size W w') := fun i s hs W hW => refLook_any A n c xs s W _ i hs hlen (hx.belowSize hW)
  have Hnx := Lib.hid hnx
  have Hmg := Lib.hid hmg
  have Hc1 : Hid (checkE xs ≠ 0 → mapR xs gs = (none, 42)) := fun h => by unfold mapR; rw [if_pos h]
  have Hc2 : Hid (checkE xs = 0 → formedB gs = false → mapR xs gs = (none, 33)) := fun h h' => by unfold mapR; rw [if_neg (by simp [h]), if_pos h']
  have Hc3 : Hid (checkE xs = 0 → formedB gs = true → ∀ r, mapLoop xs gs (xs.length + 1) (map0 xs.length) = r → mapR xs gs = (match r with | none => (none, 42) | some m => (some m, 0))) := fun h h' r hr => by unfold mapR; rw [if_neg (by simp [h]), if_neg (by simp [h']), hr]; cases r <;> rfl
  have Hl0 : Hid (checkE xs = 0 → 0 < n ∧ n ≤ 257) := fun h => by
    rw [hnx]
    unfold checkE at h
    split at h
    · exact absurd h (by decide)
    · omega
  have Hfo : Hid (0 < m → formedB gs = (gs.drop 0).all (nodeB m)) := fun h => by
    unfold formedB; rw [← hmg, decide_eq_true h, Bool.and_true]; rfl
  have Hf0 : Hid (m = 0 → formedB gs = false) := fun h => by unfold formedB; rw [← hmg, h]; simp
  clear hx hg hlen hcx hcg hnx hmg
  generalize mapR xs gs = R at *
  generalize checkE xs = E at *
  go_enter Tryz.func52, Tryz.ntmps52
  go_wp2_with fail
  obtain ⟨w0, hw0⟩ : ∃ w0, w0 = (w.alloc (.cells #[.slice A n c] 30)).alloc (.cells #[.slice B m d] 27) := ⟨_, rfl⟩
  have hz : w.heap.size < w0.heap.size := by rw [hw0]; simp [go_sem]
  have hz1 : w.heap.size + 1 < w0.heap.size := by rw [hw0]; simp [go_sem]
  have HB0 : Hid (Below w.heap.size w w0) := by unfold Hid; rw [hw0]; exact bal (bal (Below.refl _ _) _) _
  have a0 : w0.cell? ⟨w.heap.size, 0, none⟩ = some (.slice A n c) := by rw [hw0]; simp [go_sem]
  have a1 : w0.cell? ⟨w.heap.size + 1, 0, none⟩ = some (.slice B m d) := by rw [hw0]; simp [go_sem]
  rw [← hw0]
  clear hw0
  have HA0 : Hid (w0.cell? ⟨w.heap.size, 0, none⟩ = some (.slice A n c) ∧ w0.cell? ⟨w.heap.size + 1, 0, none⟩ = some (.slice B m d)) := ⟨a0, a1⟩
  refine (Hck.out w0 HB0.out).mono ?_
  rintro e w1 ⟨rfl, B1⟩
  have Q1 := Lib.hid B1; clear B1 Hck
  have b1 := below_cell Q1.out a1 hz1
  clear a0 a1
  by_cases hE : E = 0
  case neg =>
    have hEb : (E != 0) = true := by simp [hE]
    have He : Hid (R = (none, 42)) := Hc1.out hE
    clear hE
    go_wp2_with fail
    go_ret2
    refine ⟨⟨_, ret_pair He.out, ?_⟩, bot HB0.out Q1.out⟩
    rw [He.out]; exact SlV.nil_ _ _ _
  have hEb : (E != 0) = false := by simp [hE]
  have HE := Lib.hid hE; clear hE
  by_cases hm0 : m = 0
  case pos =>
    have hmb : ((m : Int) == 0) = true := by simp [hm0]
    have He : Hid (R = (none, 33)) := Hc2.out HE.out (Hf0.out hm0)
    clear hm0
    go_wp2_with fail
    go_ret2
    refine ⟨⟨_, ret_pair He.out, ?_⟩, bot HB0.out Q1.out⟩
    rw [He.out]; exact SlV.nil_ _ _ _
  have hmb : ((m : Int) == 0) = false := by simp; omega
  have Hfo1 := Lib.hid (Hfo.out (by omega))
  clear Hfo Hf0 hm0
  go_wp2_with fail
  clear b1
  go_loopw [7] (fun i wr => ∃ k : Nat, k ≤ m ∧ i = .int .i64 k ∧ Hid (formedB gs = (gs.drop k).all (nodeB m)) ∧ Below w0.heap.size w0 wr) (fun i _ => m - (intOf i).toNat)
  case atStart => exact ⟨0, Nat.zero_le _, rfl, Hfo1, Q1.out⟩
  case round =>
    obtain ⟨k, hk, rfl, Hfk, hbel⟩ := hrel
    have b1 := below_cell hbel HA0.out.2 hz1
    by_cases hlt : k < m
    case pos =>
      have hkg : k < gs.length := by have := Hmg.out; omega
      obtain ⟨b', oo, cs, rfl, hSb, hbb, hh, hcell⟩ := HG.out.elem (List.getElem?_eq_getElem hkg)
      have Hnd := Lib.hid (allL_at (q := nodeB m) hkg)
      obtain ⟨s0, s1, rfl, _, _, _, _, hp1, hp2⟩ := hh
      obtain ⟨qA, qa, rfl, hq1, hq2⟩ := hp2.val
      unfold maxLen at hq2
      have c5w := hcell 5 _ rfl
      simp only [rNode, Nat.add_zero] at c5w
      have HES := Lib.hid hp2
      have Hne : Hid (nodeB m gs[k] = (gs[k].edges.drop 0).all (edgeB m)) := rfl
      have hkI : (k : Int) < (m : Int) := by omega
      have hk0 : (0 : Int) ≤ (k : Int) := by omega
      have Hc5 := Lib.hid c5w
      clear hcell hp1 hp2 c5w
      generalize nodeB m gs[k] = nb at *
      generalize gs[k].edges = es at *
      generalize hl1 : es.length = l1 at *
      have Hl1 := Lib.hid hl1; clear hl1
      go_wp2_with fail
      go_loopw [8] (fun i wi => ∃ j : Nat, j ≤ l1 ∧ i = .int .i64 j ∧ Hid (nb = (es.drop j).all (edgeB m)) ∧ Below w0.heap.size w0 wi) (fun i _ => l1 - (intOf i).toNat)
      case atStart => exact ⟨0, Nat.zero_le _, rfl, Hne, hbel⟩
      case round =>
        clear b1 hbel Hne
        obtain ⟨j, hj, rfl, Hnj, hbel⟩ := hrel
        have b1 := below_cell hbel HA0.out.2 hz1
        have c5 := below_cell (bot HB0.out hbel) Hc5.out hbb
        by_cases hlj : j < l1
        case neg =>
          have hnb : nb = true := by rw [Hnj.out, List.drop_eq_nil_of_le (by have := Hl1.out; omega)]; rfl
          have Hf2 : Hid (formedB gs = (gs.drop (k + 1)).all (nodeB m)) := by unfold Hid; rw [Hfk.out, Hnd.out, hnb]; rfl
          have hlj' : ¬ (j : Int) < (l1 : Int) := by omega
          clear hnb
          go_wp2_with fail
          go_roundw
          case rel => exact ⟨k + 1, by omega, by go_num, Hf2, hbel⟩
          case measure => simp [intOf]; omega
        have hjy : j < es.length := by have := Hl1.out; omega
        obtain ⟨b2, o2, cs2, rfl, _, hb2, ⟨rfl, hls, hti⟩, hcell2⟩ := (HES.out.below (bot HB0.out hbel) (fun b h => h)).elem (List.getElem?_eq_getElem hjy)
        have d1 := hcell2 1 _ rfl
        simp only [rEdge, Nat.add_zero] at d1
        have Hat := Lib.hid (allL_at (q := edgeB m) hjy)
        have Hed : Hid (edgeB m es[j] = (decide (1 ≤ es[j].to) && decide (es[j].to < (m : Int)))) := rfl
        clear hcell2 hti hls
        generalize edgeB m es[j] = eb at *
        generalize es[j].to = tq at *
        have hj0 : (0 : Int) ≤ (j : Int) := by omega
        have hjl : (j : Int) < (l1 : Int) := by omega
        by_cases h1 : 1 ≤ tq ∧ tq < (m : Int)
        · have hd1 : decide (tq < 1) = false := decide_eq_false (by omega)
          have hd2 : decide ((m : Int) ≤ tq) = false := decide_eq_false (by omega)
          have Hn2 : Hid (nb = (es.drop (j + 1)).all (edgeB m)) := by unfold Hid; rw [Hnj.out, Hat.out, Hed.out, decide_eq_true h1.1, decide_eq_true h1.2]; rfl
          clear h1
          go_wp2_with fail
          go_roundw
          case rel => exact ⟨j + 1, by omega, by go_num, Hn2, hbel⟩
          case measure => simp [intOf]; omega
        · have heb : eb = false := by
            rw [Hed.out]
            by_cases h2 : 1 ≤ tq
            · rw [decide_eq_false (show ¬ tq < (m : Int) from fun h => h1 ⟨h2, h⟩), Bool.and_false]
            · rw [decide_eq_false h2, Bool.false_and]
          have hff : formedB gs = false := by rw [Hfk.out, Hnd.out, Hnj.out, Hat.out, heb]; rfl
          have He : Hid (R = (none, 33)) := Hc2.out HE.out hff
          clear heb hff
          by_cases h2 : tq < 1
          · have hd1 : decide (tq < 1) = true := decide_eq_true h2
            clear h1 h2
            go_wp2_with fail
            go_ret2
            refine ⟨⟨_, ret_pair He.out, ?_⟩, bot HB0.out hbel⟩
            rw [He.out]; exact SlV.nil_ _ _ _
          · have hd1 : decide (tq < 1) = false := decide_eq_false h2
            have hd2 : decide ((m : Int) ≤ tq) = true := decide_eq_true (by omega)
            clear h1 h2
            go_wp2_with fail
            go_ret2
            refine ⟨⟨_, ret_pair He.out, ?_⟩, bot HB0.out hbel⟩
            rw [He.out]; exact SlV.nil_ _ _ _
    case neg =>
      obtain rfl : k = m := by omega
      have hfm : formedB gs = true := by rw [Hfk.out, List.drop_eq_nil_of_le (by have := Hmg.out; omega)]; rfl
      have hlt' : ¬ (k : Int) < (k : Int) := by omega
      have HFm := Lib.hid hfm
      have HR0 := Lib.hid (Hc3.out HE.out hfm)
      have HED := Lib.hid (formed_edges hfm)
      obtain ⟨hn0, hn257⟩ := Hl0.out HE.out
      clear Hc1 Hc2 Hc3 Hl0 Hfk Hfo1 hfm hlt
      go_wp2_with fail
      obtain ⟨w2, hw2⟩ : ∃ w2, w2 = wr.alloc (.cells #[.int .i64 0] 3) := ⟨_, rfl⟩
      have HM2 : Hid (IRow w2 w0.heap.size wr.heap.size 0 1 (started 1)) := by
        rw [hw2]; exact IRow.lit _ _ _ _ hbel.size
      have Q2 : Hid (Below w0.heap.size w0 w2) := by rw [hw2]; exact bal hbel _
      rw [← hw2]
      clear hw2 b1
      generalize wr.heap.size = g1 at *
      go_loopw [10, 11] (fun v i wr => ∃ (j g k1 c1 : Nat), 1 ≤ j ∧ j ≤ n ∧ i = .int .i64 j ∧ v = .slice (some ⟨g, k1, none⟩) j c1 ∧ Hid (IRow wr w0.heap.size g k1 c1 (started j)) ∧ Below w0.heap.size w0 wr) (fun _ i _ => n - (intOf i).toNat)
      case atStart => exact ⟨1, g1, 0, 1, Nat.le_refl _, hn0, rfl, rfl, HM2, Q2.out⟩
      case round =>
        clear HM2 Q2 hbel
        obtain ⟨j, gm, km, cm, hj1, hjn, rfl, rfl, HM, hbel⟩ := hrel
        have b0 := below_cell hbel HA0.out.1 hz
        by_cases hlj : j < n
        case pos =>
          have hjI : (j : Int) < (n : Int) := by omega
          have hj0 : (0 : Int) ≤ (j : Int) := by omega
          have hws := hbel.size
          have hsl := started_len hj1
          go_wp2_with (at_builtin; refine wpList_ipush (by rfl) _ _ _ 3 (by rfl) elt_int Tryz.underlying75 j hsl.symm (by rfl) (HM.out.alloc _) ⟨wr.heap.size, 0, none⟩ 1 (-1) (by rfl) (cell_new1 _ _ _ _ rfl) (by rw [hsl]; unfold maxLen; omega) (by rw [hsl]; omega) (by simp; omega) (wr.heap.size + 1) (by simp) ?_)
          intro g5 k5 c5 w3 hrow hgrow hat
          have HM3 : Hid (IRow w3 w0.heap.size g5 k5 c5 (started (j + 1))) := by unfold Hid; rw [← started_next hj1]; exact hrow
          have Q3 : Hid (Below w0.heap.size w0 w3) := (bal hbel _).grown hgrow (by simp; omega) (fun b hb => by rw [← Option.some.inj hb]; exact HM.out.lo)
          clear hrow hgrow hat HM
          go_wp2_with fail
          go_roundw
          case rel => exact ⟨j + 1, g5, k5, c5, by omega, by omega, by go_num, rfl, HM3, Q3.out⟩
          case measure => simp [intOf]; omega
        obtain rfl : j = n := by omega
        have hlj' : ¬ (j : Int) < (j : Int) := by omega
        clear hlj
        go_wp2_with fail
        obtain ⟨w3, hw3⟩ : ∃ w3, w3 = wr.alloc (.cells #[.int .i64 0] 3) := ⟨_, rfl⟩
        have HP5 : Hid (MapAt2 w0 w3 gm km cm j gs.length wr.heap.size 0 1 (started j) [0] 0) := by
          rw [hw3]
          have hst := MInv.start (n := j) (gl := gs.length) hn0 HED.out.1
          exact ⟨HM.out.alloc _, IRow.lit _ _ _ _ hbel.size, by have := HM.out.lt; omega, hst.1, Nat.le_of_eq hst.2, bal hbel _⟩
        have HF5 : Hid (freeN (started j) + ([0] : List Nat).length < j + 1) := by
          have := (MInv.start (n := j) (gl := gs.length) hn0 HED.out.1).2
          unfold Hid
          have e1 : (map0 j).1 = started j := rfl
          have e2 : (map0 j).2 = [0] := rfl
          rw [e1, e2] at this
          omega
        have HR5 : Hid (∀ r, mapLoop xs gs (j + 1) (started j, ([0] : List Nat).drop 0) = r → R = (match r with | none => (none, 42) | some m => (some m, 0))) := fun r hr => HR0.out r (by rw [← Hnx.out]; exact hr)
        rw [← hw3]
        clear hw3 HM b0 HR0
        generalize wr.heap.size = g4 at *
        go_loopg [12, 13] (j + 1) (fun f v i wr => ∃ (g2 k2 c2 p : Nat) (mm : List Int) (rl : List Nat), p ≤ rl.length ∧ i = .int .i64 p ∧ v = .slice (some ⟨g2, k2, none⟩) rl.length c2 ∧ Hid (MapAt2 w0 wr gm km cm j gs.length g2 k2 c2 mm rl p) ∧ Hid (freeN mm + (rl.drop p).length < f ∧ f ≤ j + 1) ∧ Hid (∀ r, mapLoop xs gs f (mm, rl.drop p) = r → R = (match r with | none => (none, 42) | some m => (some m, 0))))
        case atStart => exact ⟨g4, 0, 1, 0, _, [0], Nat.zero_le _, rfl, rfl, HP5, ⟨HF5.out, Nat.le_refl _⟩, HR5⟩
        case round =>
          clear HP5 HF5 HR5 hbel
          obtain ⟨g2, k2, c2, p, mm, rl, hp, rfl, rfl, HP, HF, HRf⟩ := hrel
          have b1 := below_cell HP.out.bel HA0.out.2 hz1
          obtain ⟨f, rfl⟩ : ∃ f, gk = f + 1 := ⟨gk - 1, by have := HF.out.1; omega⟩
          have hrl : rl.length ≤ 257 := by have := HP.out.sum; omega
          have hmlE : Hid (mm.length = j) := HP.out.inv.len
          by_cases hpl : p < rl.length
          case neg =>
            have hpl' : ¬ (p : Int) < (rl.length : Int) := by omega
            have He : Hid (R = (some mm, 0)) := HRf.out (some mm) (by rw [List.drop_eq_nil_of_le (by omega), mapLoop])
            go_wp2_with fail
            go_ret2
            refine ⟨⟨_, ret_pair He.out, ?_⟩, bot HB0.out HP.out.bel⟩
            rw [He.out]
            refine SlV.more ?_ (fun b hb _ => Nat.le_trans HB0.out.size hb)
            have hsl := HP.out.m_.slv (fun x hx => by have := HP.out.inv.rng x hx; have := Hmg.out; unfold I64; omega)
            rw [hmlE.out] at hsl
            exact hsl
          obtain ⟨a, ha⟩ : ∃ a, rl[p]? = some a := ⟨_, List.getElem?_eq_getElem hpl⟩
          have hdr : rl.drop p = a :: rl.drop (p + 1) := by
            rw [List.drop_eq_getElem_cons hpl]; rw [List.getElem?_eq_getElem hpl] at ha; rw [Option.some.inj ha]
          obtain ⟨x, hxg, hx0⟩ := HP.out.inv.rest a (by show a ∈ rl.drop p; rw [hdr]; simp)
          obtain ⟨q, rfl⟩ : ∃ q : Nat, x = (q : Int) := ⟨x.toNat, by omega⟩
          have hrng := HP.out.inv.rng _ (List.mem_of_getElem? hxg)
          have hxg : mm[a]? = some (q : Int) := hxg
          have haj : a < j := by have := (List.getElem?_eq_some_iff.1 hxg).1; have := hmlE.out; omega
          have hqg : q < gs.length := by omega
          have hqm : (q : Int) < (k : Int) := by have := Hmg.out; omega
          have hq0 : (0 : Int) ≤ (q : Int) := by omega
          have hajI : (a : Int) < (j : Int) := by omega
          have ha0 : (0 : Int) ≤ (a : Int) := by omega
          have hpI : (p : Int) < (rl.length : Int) := by omega
          have hp0 : (0 : Int) ≤ (p : Int) := by omega
          have hca : ∀ {l : List Nat} {i y : Nat}, l[i]? = some y → (castN l)[i]? = some (y : Int) := fun h => by unfold castN; rw [List.getElem?_map, h]; rfl
          have hr0 := HP.out.r_.at_ p (a : Int) (hca ha)
          have hma := HP.out.m_.at_ a _ hxg
          obtain ⟨b', oo, cs, hBe, hSb, hbb, hh, hcell⟩ := HG.out.elem (List.getElem?_eq_getElem hqg)
          obtain ⟨s0, s1, rfl, _, _, _, _, hp1, hp2⟩ := hh
          obtain ⟨qA, qa, rfl, hq1, hq2⟩ := hp2.val
          unfold maxLen at hq2
          subst hBe
          have c5 := below_cell (bot HB0.out HP.out.bel) (hcell 5 _ rfl) hbb
          simp only [rNode, Nat.add_zero] at c5
          have hese : edgesOf gs (mm.getD a 0) = gs[q].edges := by
            rw [List.getD_eq_getElem?_getD, hxg]
            unfold edgesOf
            simp only [Option.getD_some, Int.toNat_natCast, List.getElem?_eq_getElem hqg]
          have HR1 : Hid (∀ r, mapNext xs gs f (mapEdges xs gs a (gs[q].edges.drop 0) (mm, rl.drop (p + 1))) = r → R = (match r with | none => (none, 42) | some m => (some m, 0))) := fun r hr => HRf.out r (by rw [hdr, mapLoop_cons, hese]; exact hr)
          have HES := Lib.hid hp2
          have Hall : Hid (gs[q].edges.all (edgeB gs.length) = true) := HED.out.2 _ (List.getElem_mem hqg)
          have HF1 : Hid (freeN mm + (rl.drop (p + 1)).length < f) := by have h := HF.out.1; rw [hdr, List.length_cons] at h; unfold Hid; omega
          have Hfk : Hid (f + 1 ≤ j + 1) := HF.out.2
          have HP1 := Lib.hid (HP.out.next hdr)
          have Ha := Lib.hid ha
          clear hcell hp1 hp2 hxg hese hrng hx0 HF HRf ha hdr
          generalize gs[q].edges = es at *
          generalize hl1 : es.length = l1 at *
          have Hl1 := Lib.hid hl1; clear hl1
          generalize hrn : rl.length = rn at *
          have Hrn := Lib.hid hrn; clear hrn
          have r_b1 := cell_regrown b1
          have r_hma := cell_regrown hma
          have r_hr0 := cell_regrown hr0
          have r_c5 := cell_regrown c5
          go_wp2_with fail
          refine wp_region_qb (by kernel_rfl) (by kernel_rfl) ?_
          repeat (go_big_quiet_step (first | fail))
          refine wpQuiet_nil ?_
          intro w6 B6
          have HP6 := Lib.hid (HP1.out.keep B6)
          clear HP HP1 b1 hma c5 r_b1 r_hma r_c5 r_hr0 hr0 B6 hmlE
          go_wp2_with fail
          go_loopw [12, 15] (fun v i wi => ∃ (jj g3 k3 c3 : Nat) (m3 : List Int) (r3 : List Nat), jj ≤ l1 ∧ i = .int .i64 jj ∧ v = .slice (some ⟨g3, k3, none⟩) r3.length c3 ∧ p + 1 ≤ r3.length ∧ Hid (r3[p]? = some a) ∧ Hid (MapAt2 w0 wi gm km cm j gs.length g3 k3 c3 m3 r3 (p + 1)) ∧ Hid (freeN m3 + (r3.drop (p + 1)).length < f) ∧ Hid (∀ r, mapNext xs gs f (mapEdges xs gs a (es.drop jj) (m3, r3.drop (p + 1))) = r → R = (match r with | none => (none, 42) | some m => (some m, 0)))) (fun _ i _ => l1 - (intOf i).toNat)
          case atStart => exact ⟨0, g2, k2, c2, mm, rl, Nat.zero_le _, rfl, by rw [Hrn.out], by have := Hrn.out; omega, Ha, HP6, HF1, HR1⟩
          case round =>
            clear HP6 HF1 HR1
            obtain ⟨jj, g3, k3, c3, m3, r3, hjj, rfl, rfl, hpr, Har, HP3, HF3, HR3⟩ := hrel
            have b0 := below_cell HP3.out.bel HA0.out.1 hz
            have b1 := below_cell HP3.out.bel HA0.out.2 hz1
            have Hml : Hid (m3.length = j) := HP3.out.inv.len
            have hr3k : r3.length ≤ 257 := by have := HP3.out.sum; omega
            by_cases hlj : jj < l1
            case neg =>
              have hlj' : ¬ (jj : Int) < (l1 : Int) := by omega
              have HR4 : Hid (∀ r, mapLoop xs gs f (m3, r3.drop (p + 1)) = r → R = (match r with | none => (none, 42) | some m => (some m, 0))) := fun r hr => HR3.out r (by rw [List.drop_eq_nil_of_le (by have := Hl1.out; omega), mapEdges]; exact hr)
              clear HR3
              go_wp2_with fail
              go_roundg f
              case measure => omega
              case rel => exact ⟨g3, k3, c3, p + 1, m3, r3, hpr, by go_num, rfl, HP3, ⟨HF3.out, by have := Hfk.out; omega⟩, HR4⟩
            have hjy : jj < es.length := by have := Hl1.out; omega
            obtain ⟨b2, o2, cs2, rfl, _, hb2, ⟨rfl, hls, hti⟩, hcell2⟩ := (HES.out.below (bot HB0.out HP3.out.bel) (fun b h => h)).elem (List.getElem?_eq_getElem hjy)
            have d0 := hcell2 0 _ rfl
            have d1 := hcell2 1 _ rfl
            simp only [rEdge, Nat.add_zero] at d0 d1
            have hedge : edgeB gs.length es[jj] = true := List.all_eq_true.1 Hall.out _ (List.getElem_mem hjy)
            have Hedge := Lib.hid hedge
            unfold edgeB at hedge
            simp only [Bool.and_eq_true, decide_eq_true_eq] at hedge
            have Hat := Lib.hid (mapEdges_at xs gs a hjy (m3, r3.drop (p + 1)))
            clear hcell2
            have hj0 : (0 : Int) ≤ (jj : Int) := by omega
            have hjl : (jj : Int) < (l1 : Int) := by omega
            obtain ⟨ed, hed⟩ : ∃ ed, ed = es[jj] := ⟨_, rfl⟩
            rw [← hed] at d0 d1 hedge Hedge Hat hls hti
            clear hed
            obtain ⟨lb, tq⟩ := ed
            simp only at d0 d1 hedge hls hti
            obtain ⟨q3, rfl⟩ : ∃ q3 : Nat, tq = (q3 : Int) := ⟨tq.toNat, by omega⟩
            have hq3 : q3 < gs.length := by omega
            have hq3m : (q3 : Int) < (k : Int) := by have := Hmg.out; omega
            have hq30 : (0 : Int) ≤ (q3 : Int) := by omega
            have hq31 : (1 : Int) ≤ (q3 : Int) := hedge.1
            clear hedge
            have hpI3 : (p : Int) < (r3.length : Int) := by omega
            have hr0 := HP3.out.r_.at_ p (a : Int) (hca Har.out)
            have H1 := Lib.hid (qcall (w := wr) (fun W hW => Hlk.out (a : Int) lb hls W (bot (bot HB0.out HP3.out.bel) hW)))
            have hrg := lookI_range xs a lb
            have Hnone : Hid (mapEdge xs gs a (m3, r3.drop (p + 1)) ⟨lb, q3⟩ = none → R = (none, 42)) := fun h => HR3.out none (by rw [Hat.out, h]; rfl)
            have Hsome : Hid (∀ s', mapEdge xs gs a (m3, r3.drop (p + 1)) ⟨lb, q3⟩ = some s' → ∀ r, mapNext xs gs f (mapEdges xs gs a (es.drop (jj + 1)) s') = r → R = (match r with | none => (none, 42) | some m => (some m, 0))) := fun s' h r hr => HR3.out r (by rw [Hat.out, h]; exact hr)
            have Hme : Hid (mapEdge xs gs a (m3, r3.drop (p + 1)) ⟨lb, q3⟩ = if 0 ≤ lookI xs a lb ∧ packIs xs gs (lookI xs a lb).toNat q3 = true then
                (if m3[(lookI xs a lb).toNat]? = some (-1) then some (m3.set (lookI xs a lb).toNat q3, r3.drop (p + 1) ++ [(lookI xs a lb).toNat]) else if m3[(lookI xs a lb).toNat]? = some (q3 : Int) then some (m3, r3.drop (p + 1)) else none) else none) := by
              unfold Hid mapEdge
              simp only [Int.toNat_natCast]
            have HME : Hid (∀ s', mapEdge xs gs a (m3, r3.drop (p + 1)) ⟨lb, q3⟩ = some s' → MInv j gs.length s' ∧ freeN s'.1 + s'.2.length = freeN m3 + (r3.drop (p + 1)).length) := fun s' h => by
              obtain ⟨i1, i2, _⟩ := MInv.edge HP3.out.inv Hedge.out h
              exact ⟨i1, i2⟩
            clear HR3 Hat hls hti
            generalize mapEdge xs gs a (m3, r3.drop (p + 1)) ⟨lb, q3⟩ = ME at *
            generalize lookI xs a lb = L at *
            generalize hrn3 : r3.length = rn3 at *
            have Hrn3 := Lib.hid hrn3; clear hrn3
            have r_b0 := cell_regrown b0
            have r_hr0 := cell_regrown hr0
            have r_d0 := cell_regrown d0
            go_wp2_with fail
            go_wp2_with fail
            refine wp_region_qb (by kernel_rfl) (by kernel_rfl) ?_
            repeat (go_big_quiet_step (first | (with_reducible exact H1.out _ _)))
            refine wpQuiet_nil ?_
            intro w8 B8
            have HP8 : Hid (MapAt2 w0 w8 gm km cm j gs.length g3 k3 c3 m3 r3 (p + 1)) := HP3.out.keep B8
            have f1 := below_cell B8 d1 hb2
            have hb8 := Nat.lt_of_lt_of_le hb2 B8.size
            clear HP3 b0 b1 hr0 d0 d1 r_b0 r_hr0 r_d0 H1 B8
            have b0 := below_cell HP8.out.bel HA0.out.1 hz
            have b1 := below_cell HP8.out.bel HA0.out.2 hz1
            by_cases hL : L < 0
            · have hLd : decide (L < 0) = true := decide_eq_true hL
              have He : Hid (R = (none, 42)) := Hnone.out (by rw [Hme.out, if_neg (by omega)])
              clear hrg hL
              go_wp2_with fail
              go_ret2
              refine ⟨⟨_, ret_pair He.out, ?_⟩, bot HB0.out HP8.out.bel⟩
              rw [He.out]; exact SlV.nil_ _ _ _
            have hLd : decide (L < 0) = false := decide_eq_false hL
            obtain ⟨q4, rfl⟩ : ∃ q4 : Nat, L = (q4 : Int) := ⟨L.toNat, by omega⟩
            have hq4x : q4 < xs.length := by omega
            have hq4 : q4 < j := by have := Hnx.out; omega
            have hq40 : (0 : Int) ≤ (q4 : Int) := by omega
            have hq4k : (q4 : Int) < (j : Int) := by omega
            simp only [Int.toNat_natCast] at Hme
            have Hpi : Hid (packIs xs gs q4 q3 = (decide (xs[q4].pack.name = gs[q3].name) && eqB xs[q4].pack.ver gs[q3].ver)) := packIs_at hq4x hq3
            have hq4m : q4 < m3.length := by have := Hml.out; omega
            have Hm4 : Hid (m3[q4]? = some m3[q4]) := List.getElem?_eq_getElem hq4m
            obtain ⟨bx, ox, csx, hAe, hSx, hbx, hhx, hcellx⟩ := HX.out.elem (List.getElem?_eq_getElem hq4x)
            obtain ⟨xA, xa, xB, xb, xC, xc, xD, xd, rfl, _, _, _⟩ := dir_cells hhx
            obtain ⟨b', oo, csg, hBe, hSg, hbg, hhg, hcellg⟩ := HG.out.elem (List.getElem?_eq_getElem hq3)
            obtain ⟨t0, t1, rfl, _, _, _, _, ht0, ht1⟩ := hhg
            obtain ⟨tA, ta, rfl, _, _⟩ := ht0.val
            obtain ⟨tB, tb, rfl, _, _⟩ := ht1.val
            subst hAe
            simp only [Option.some.injEq, Addr.mk.injEq] at hBe
            obtain ⟨rfl, rfl, _⟩ := hBe
            have hbx8 := bot HB0.out HP8.out.bel
            have x1 := below_cell hbx8 (hcellx 1 _ rfl) hbx
            have x2 := below_cell hbx8 (hcellx 2 _ rfl) hbx
            have x3 := below_cell hbx8 (hcellx 3 _ rfl) hbx
            have x4 := below_cell hbx8 (hcellx 4 _ rfl) hbx
            have x5 := below_cell hbx8 (hcellx 5 _ rfl) hbx
            have x6 := below_cell hbx8 (hcellx 6 _ rfl) hbx
            have x7 := below_cell hbx8 (hcellx 7 _ rfl) hbx
            have y0 := below_cell hbx8 (hcellg 0 _ rfl) hbg
            have y1 := below_cell hbx8 (hcellg 1 _ rfl) hbg
            have y2 := below_cell hbx8 (hcellg 2 _ rfl) hbg
            have y3 := below_cell hbx8 (hcellg 3 _ rfl) hbg
            have y4 := below_cell hbx8 (hcellg 4 _ rfl) hbg
            have y5 := below_cell hbx8 (hcellg 5 _ rfl) hbg
            simp only [rDir, rNode, Nat.add_zero] at x1 x2 x3 x4 x5 x6 x7 y0 y1 y2 y3 y4 y5
            clear hcellx hcellg hbx8 ht0 ht1
            have Hve : Hid (xs[q4].pack.ver = gs[q3].ver ↔ (xs[q4].pack.ver.major = gs[q3].ver.major ∧ xs[q4].pack.ver.minor = gs[q3].ver.minor ∧ xs[q4].pack.ver.patch = gs[q3].ver.patch)) := by
              unfold Hid
              constructor
              · intro h; rw [h]; exact ⟨rfl, rfl, rfl⟩
              · rintro ⟨h1, h2, h3⟩
                cases hv1 : xs[q4].pack.ver
                cases hv2 : gs[q3].ver
                rw [hv1, hv2] at h1 h2 h3
                simp only at h1 h2 h3
                subst h1; subst h2; subst h3; rfl
            have hneq := fun W => neq_ver W xs[q4].pack.ver.major xs[q4].pack.ver.minor xs[q4].pack.ver.patch gs[q3].ver.major gs[q3].ver.minor gs[q3].ver.patch
            generalize xs[q4].pack.deps.length = n1 at *
            generalize xs[q4].pack.peers.length = n2 at *
            generalize xs[q4].pack.opts.length = n3 at *
            generalize gs[q3].ctx.length = n4 at *
            generalize gs[q3].edges.length = n5 at *
            generalize xs[q4].pack.ver = v1 at *
            generalize gs[q3].ver = v2 at *
            generalize xs[q4].pack.name = p1 at *
            generalize gs[q3].name = p2 at *
            go_wp2_with fail
            obtain ⟨w9, hw9⟩ : ∃ w9, w9 = w8.alloc (.cells #[.string p1, .int .i64 v1.major, .int .i64 v1.minor, .int .i64 v1.patch, .slice xB n1 xb, .slice xC n2 xc, .slice xD n3 xd] 57) := ⟨_, rfl⟩
            have hz9 : w8.heap.size < w9.heap.size := by rw [hw9]; simp [go_sem]
            have HB9 : Hid (Below w8.heap.size w8 w9) := by unfold Hid; rw [hw9]; exact bal (Below.refl _ _) _
            have k0 : w9.cell? ⟨w8.heap.size, 0, none⟩ = some (.string p1) := by rw [hw9]; simp [go_sem]
            have k1 : w9.cell? ⟨w8.heap.size, 1, none⟩ = some (.int .i64 v1.major) := by rw [hw9]; simp [go_sem]
            have k2' : w9.cell? ⟨w8.heap.size, 2, none⟩ = some (.int .i64 v1.minor) := by rw [hw9]; simp [go_sem]
            have k3' : w9.cell? ⟨w8.heap.size, 3, none⟩ = some (.int .i64 v1.patch) := by rw [hw9]; simp [go_sem]
            have HK : Hid (w9.cell? ⟨w8.heap.size, 0, none⟩ = some (.string p1) ∧ w9.cell? ⟨w8.heap.size, 1, none⟩ = some (.int .i64 v1.major) ∧ w9.cell? ⟨w8.heap.size, 2, none⟩ = some (.int .i64 v1.minor) ∧ w9.cell? ⟨w8.heap.size, 3, none⟩ = some (.int .i64 v1.patch)) := ⟨k0, k1, k2', k3'⟩
            rw [← hw9]
            have HP9 : Hid (MapAt2 w0 w9 gm km cm j gs.length g3 k3 c3 m3 r3 (p + 1)) := HP8.out.keep HB9.out
            have hsz8 := HP8.out.bel.size
            have b1' := below_cell HP9.out.bel HA0.out.2 hz1
            have e1 := below_cell HB9.out f1 hb8
            have He1 := Lib.hid e1
            have hbb9 : b2 < w9.heap.size := Nat.lt_of_lt_of_le hb8 HB9.out.size
            have z0 := below_cell HB9.out y0 (Nat.lt_of_lt_of_le hbg (Nat.le_trans HB0.out.size hsz8))
            have z1 := below_cell HB9.out y1 (Nat.lt_of_lt_of_le hbg (Nat.le_trans HB0.out.size hsz8))
            have z2 := below_cell HB9.out y2 (Nat.lt_of_lt_of_le hbg (Nat.le_trans HB0.out.size hsz8))
            have z3 := below_cell HB9.out y3 (Nat.lt_of_lt_of_le hbg (Nat.le_trans HB0.out.size hsz8))
            have z4 := below_cell HB9.out y4 (Nat.lt_of_lt_of_le hbg (Nat.le_trans HB0.out.size hsz8))
            have z5 := below_cell HB9.out y5 (Nat.lt_of_lt_of_le hbg (Nat.le_trans HB0.out.size hsz8))
            clear hw9 x1 x2 x3 x4 x5 x6 x7 y0 y1 y2 y3 y4 y5 b0 b1 f1 k0 k1 k2' k3' HP8
            go_wp2_with fail
            go_region_held3 (fun w' => w'.cell? ⟨w.heap.size + 1, 0, none⟩ = some (.slice (some ⟨b', oo, none⟩) k d) ∧ w'.cell? ⟨b2, o2 + jj * 2 + 1, none⟩ = some (.int .i64 q3) ∧ w'.cell? ⟨b', oo + q3 * 6, none⟩ = some (.string p2) ∧ w'.cell? ⟨b', oo + q3 * 6 + 1, none⟩ = some (.int .i64 v2.major) ∧ w'.cell? ⟨b', oo + q3 * 6 + 2, none⟩ = some (.int .i64 v2.minor) ∧ w'.cell? ⟨b', oo + q3 * 6 + 3, none⟩ = some (.int .i64 v2.patch) ∧ w'.cell? ⟨b', oo + q3 * 6 + 4, none⟩ = some (.slice tA n4 ta) ∧ w'.cell? ⟨b', oo + q3 * 6 + 5, none⟩ = some (.slice tB n5 tb))
              (first | go_keep | exact ⟨by go_keep, by go_keep, by go_keep, by go_keep, by go_keep, by go_keep, by go_keep, by go_keep⟩)
              (fail)
            obtain ⟨w11, hw11⟩ : ∃ w11, w11 = (w9.alloc (.cells #[.string p2, .int .i64 v2.major, .int .i64 v2.minor, .int .i64 v2.patch, .slice tA n4 ta, .slice tB n5 tb] 63)).drew := ⟨_, rfl⟩
            have HB11 : Hid (Below w9.heap.size w9 w11) := by unfold Hid; rw [hw11]; exact (bal (Below.refl _ _) _).drew
            have l0' : w11.cell? ⟨w9.heap.size, 0, none⟩ = some (.string p2) := by rw [hw11]; simp [go_sem]
            have l1' : w11.cell? ⟨w9.heap.size, 1, none⟩ = some (.int .i64 v2.major) := by rw [hw11]; simp [go_sem]
            have l2' : w11.cell? ⟨w9.heap.size, 2, none⟩ = some (.int .i64 v2.minor) := by rw [hw11]; simp [go_sem]
            have l3' : w11.cell? ⟨w9.heap.size, 3, none⟩ = some (.int .i64 v2.patch) := by rw [hw11]; simp [go_sem]
            have HP11 : Hid (MapAt2 w0 w11 gm km cm j gs.length g3 k3 c3 m3 r3 (p + 1)) := HP9.out.keep HB11.out
            rw [← hw11]
            have k0 := below_cell HB11.out HK.out.1 hz9
            have k1 := below_cell HB11.out HK.out.2.1 hz9
            have k2' := below_cell HB11.out HK.out.2.2.1 hz9
            have k3' := below_cell HB11.out HK.out.2.2.2 hz9
            clear e1
            have e1 := below_cell HB11.out He1.out hbb9
            have hc4 := HP11.out.m_.at_ q4 _ Hm4.out
            have hx4 := HP11.out.inv.rng _ (List.mem_of_getElem? Hm4.out)
            clear hw11 HP9 b1' z0 z1 z2 z3 z4 z5
            generalize m3[q4] = xv at *
            by_cases hnm : p1 = p2
            case neg =>
              have hbn := beq_false hnm
              have He : Hid (R = (none, 42)) := Hnone.out (by rw [Hme.out, Hpi.out, decide_eq_false hnm]; simp)
              clear hnm hrg hneq
              have r_k0 := cell_regrown k0
              have r_l0' := cell_regrown l0'
              go_wp2_with fail
              refine wp_region_qb (by kernel_rfl) (by kernel_rfl) ?_
              repeat (go_big_quiet_step (first | fail))
              refine wpQuiet_nil ?_
              intro w12 B12
              have Q12 := Lib.hid (bot HP11.out.bel B12)
              clear k0 l0' r_k0 r_l0' B12 k1 k2' k3' l1' l2' l3' e1 hc4
              go_wp2_with fail
              go_ret2
              refine ⟨⟨_, ret_pair He.out, ?_⟩, bot HB0.out Q12.out⟩
              rw [He.out]; exact SlV.nil_ _ _ _
            have hbn := beq_true hnm
            by_cases hvr : v1 = v2
            case neg =>
              have hvf : decide (v1.major = v2.major ∧ v1.minor = v2.minor ∧ v1.patch = v2.patch) = false := decide_eq_false fun h => hvr (Hve.out.2 h)
              have He : Hid (R = (none, 42)) := Hnone.out (by rw [Hme.out, Hpi.out, eqB_false hvr]; simp)
              rw [hvf] at hneq
              clear hnm hrg hvr hvf
              generalize v1.major = z1 at *
              generalize v1.minor = z2 at *
              generalize v1.patch = z3 at *
              generalize v2.major = z4 at *
              generalize v2.minor = z5 at *
              generalize v2.patch = z6 at *
              have r_k0 := cell_regrown k0
              have r_k1 := cell_regrown k1
              have r_k2' := cell_regrown k2'
              have r_k3' := cell_regrown k3'
              have r_l0' := cell_regrown l0'
              have r_l1' := cell_regrown l1'
              have r_l2' := cell_regrown l2'
              have r_l3' := cell_regrown l3'
              go_wp2_with fail
              refine wp_region_qb (by kernel_rfl) (by kernel_rfl) ?_
              repeat (go_big_quiet_step (first | fail))
              refine wpQuiet_nil ?_
              intro w12 B12
              have Q12 := Lib.hid (bot HP11.out.bel B12)
              clear k0 l0' B12 k1 k2' k3' l1' l2' l3' e1 hc4 r_k0 r_k1 r_k2' r_k3' r_l0' r_l1' r_l2' r_l3'
              go_wp2_with fail
              go_ret2
              refine ⟨⟨_, ret_pair He.out, ?_⟩, bot HB0.out Q12.out⟩
              rw [He.out]; exact SlV.nil_ _ _ _
            have hvf : decide (v1.major = v2.major ∧ v1.minor = v2.minor ∧ v1.patch = v2.patch) = true := decide_eq_true (Hve.out.1 hvr)
            have hpi : packIs xs gs q4 q3 = true := by rw [Hpi.out, decide_eq_true hnm, eqB_true hvr]; rfl
            have Hme2 : Hid (ME = if m3[q4]? = some (-1) then some (m3.set q4 q3, r3.drop (p + 1) ++ [q4]) else if m3[q4]? = some (q3 : Int) then some (m3, r3.drop (p + 1)) else none) := by
              unfold Hid; rw [Hme.out, if_pos ⟨by omega, hpi⟩]
            rw [hvf] at hneq
            rw [Hm4.out] at Hme2
            clear hnm hrg hvr hvf Hme Hpi hpi Hve
            generalize v1.major = z1 at *
            generalize v1.minor = z2 at *
            generalize v1.patch = z3 at *
            generalize v2.major = z4 at *
            generalize v2.minor = z5 at *
            generalize v2.patch = z6 at *
            by_cases hv1 : xv = -1
            · subst hv1
              have Hme3 : Hid (ME = some (m3.set q4 q3, r3.drop (p + 1) ++ [q4])) := by unfold Hid; rw [Hme2.out, if_pos rfl]
              have hdp : (r3 ++ [q4]).drop (p + 1) = r3.drop (p + 1) ++ [q4] := drop_push (by have := Hrn3.out; omega)
              have HR5 : Hid (∀ r, mapNext xs gs f (mapEdges xs gs a (es.drop (jj + 1)) (m3.set q4 q3, (r3 ++ [q4]).drop (p + 1))) = r → R = (match r with | none => (none, 42) | some m => (some m, 0))) := fun r hr => Hsome.out _ Hme3.out r (by rw [← hdp]; exact hr)
              have Hiv := Lib.hid (HME.out _ Hme3.out)
              have HF5 : Hid (freeN (m3.set q4 q3) + ((r3 ++ [q4]).drop (p + 1)).length < f) := by rw [hdp]; have h5 : freeN (m3.set q4 q3) + (r3.drop (p + 1) ++ [q4]).length = freeN m3 + (r3.drop (p + 1)).length := Hiv.out.2; have := HF3.out; unfold Hid; omega
              have Hiv1 : Hid (MInv j gs.length (m3.set q4 q3, (r3 ++ [q4]).drop (p + 1))) := by rw [hdp]; exact Hiv.out.1
              have Hsum : Hid (freeN (m3.set q4 q3) + (r3 ++ [q4]).length ≤ j) := by
                have h5 := count_set_free m3 q4 q3 Hm4.out (by omega)
                have h6 := HP11.out.sum
                unfold Hid; rw [List.length_append, List.length_singleton]; omega
              have Har5 : Hid ((r3 ++ [q4])[p]? = some a) := by unfold Hid; rw [List.getElem?_append_left (by have := Hrn3.out; omega)]; exact Har.out
              clear hdp
              have r_k0 := cell_regrown k0
              have r_k1 := cell_regrown k1
              have r_k2' := cell_regrown k2'
              have r_k3' := cell_regrown k3'
              have r_l0' := cell_regrown l0'
              have r_l1' := cell_regrown l1'
              have r_l2' := cell_regrown l2'
              have r_l3' := cell_regrown l3'
              have r_hc4 := cell_regrown hc4
              have r_e1 := cell_regrown e1
              go_wp2_with fail
              refine wp_region_qb (by kernel_rfl) (by kernel_rfl) ?_
              repeat (go_big_quiet_step (first | fail))
              refine wpQuiet_nil ?_
              intro w12 B12
              have HP12 : Hid (MapAt2 w0 w12 gm km cm j gs.length g3 k3 c3 m3 r3 (p + 1)) := HP11.out.keep B12
              have e2 := below_cell B12 e1 (Nat.lt_of_lt_of_le hbb9 HB11.out.size)
              have hw12s := HP12.out.bel.size
              clear k0 l0' B12 k1 k2' k3' l1' l2' l3' e1 hc4 r_k0 r_k1 r_k2' r_k3' r_l0' r_l1' r_l2' r_l3' r_hc4 r_e1 hneq hbn HP11
              have hc4 := HP12.out.m_.at_ q4 _ Hm4.out
              have hq4c : q4 < cm := Nat.lt_of_lt_of_le hq4m HP12.out.m_.le
              have hfz := HP12.out.m_.frozen (j := q4) hq4c
              have HS := Lib.hid (HP12.out.m_.set (j := q4) hq4m (q3 : Int))
              have HQ : Hid (IRow (w12.setCell ⟨gm, km + q4, none⟩ (.int .i64 q3)) w0.heap.size g3 k3 c3 (castN r3)) := HP12.out.r_.grown HS.out.2 (fun e => HP12.out.ne (Option.some.inj e))
              have hglt := HP12.out.m_.lt
              have Hr3 : Hid ((castN r3).length = rn3) := by unfold Hid; rw [← Hrn3.out]; simp [castN]
              go_wp2_with (at_builtin; refine wpList_ipush (by rfl) _ _ _ 3 (by rfl) elt_int Tryz.underlying75 rn3 Hr3.out.symm (by rfl) (HQ.out.alloc _) ⟨w12.heap.size, 0, none⟩ 1 (q4 : Int) (by rfl) (cell_new1 _ _ _ _ (by simp)) (by rw [Hr3.out]; unfold maxLen; omega) (by rw [Hr3.out]; omega) (by simp; omega) (w12.heap.size + 1) (by simp) ?_)
              intro g5 k5 c5 w13 hrow hgrow hat
              have HPn : Hid (MapAt2 w0 w13 gm km cm j gs.length g5 k5 c5 (m3.set q4 q3) (r3 ++ [q4]) (p + 1)) := by
                refine ⟨(HS.out.1.alloc _).grown hgrow (fun e => HP12.out.ne (Option.some.inj e).symm), ?_, ?_, Hiv1.out, Hsum.out, ?_⟩
                · rw [show castN (r3 ++ [q4]) = castN r3 ++ [(q4 : Int)] by simp [castN]]; exact hrow
                · rcases hat with h | h
                  · rw [h]; exact HP12.out.ne
                  · omega
                · exact (bal (below_setCell HP12.out.bel HP12.out.m_.lo _) _).grown hgrow (by simp; omega) (fun b hb => by rw [← Option.some.inj hb]; exact HQ.out.lo)
              clear hrow hgrow hat HS HQ Hiv
              go_wp2_with fail
              go_roundw
              case rel => exact ⟨jj + 1, g5, k5, c5, _, _, by omega, by go_num, by rw [List.length_append, Hrn3.out]; rfl, by rw [List.length_append]; have := Hrn3.out; omega, Har5, HPn, HF5, HR5⟩
              case measure => simp [intOf]; omega
            have hv1b : ((0 : Int) ≤ xv) := by omega
            have hv1d : decide ((0 : Int) ≤ xv) = true := decide_eq_true hv1b
            have hv1l : decide (xv < 0) = false := decide_eq_false (by omega)
            by_cases hv2 : xv = (q3 : Int)
            · have hv2b : (xv != (q3 : Int)) = false := by simp [hv2]
              have Hme3 : Hid (ME = some (m3, r3.drop (p + 1))) := by unfold Hid; rw [Hme2.out, if_neg (by simpa using hv1), if_pos (by rw [hv2])]
              have HR5 : Hid (∀ r, mapNext xs gs f (mapEdges xs gs a (es.drop (jj + 1)) (m3, r3.drop (p + 1))) = r → R = (match r with | none => (none, 42) | some m => (some m, 0))) := fun r hr => Hsome.out _ Hme3.out r hr
              clear hv1 hv2
              have r_k0 := cell_regrown k0
              have r_k1 := cell_regrown k1
              have r_k2' := cell_regrown k2'
              have r_k3' := cell_regrown k3'
              have r_l0' := cell_regrown l0'
              have r_l1' := cell_regrown l1'
              have r_l2' := cell_regrown l2'
              have r_l3' := cell_regrown l3'
              have r_hc4 := cell_regrown hc4
              have r_e1 := cell_regrown e1
              go_wp2_with fail
              refine wp_region_qb (by kernel_rfl) (by kernel_rfl) ?_
              repeat (go_big_quiet_step (first | fail))
              refine wpQuiet_nil ?_
              intro w12 B12
              have HP12 : Hid (MapAt2 w0 w12 gm km cm j gs.length g3 k3 c3 m3 r3 (p + 1)) := HP11.out.keep B12
              clear k0 l0' B12 k1 k2' k3' l1' l2' l3' e1 hc4 r_k0 r_k1 r_k2' r_k3' r_l0' r_l1' r_l2' r_l3' r_hc4 r_e1 hneq hbn HP11
              have hc4 := HP12.out.m_.at_ q4 _ Hm4.out
              go_wp2_with fail
              go_roundw
              case rel => exact ⟨jj + 1, g3, k3, c3, m3, r3, by omega, by go_num, by rw [Hrn3.out], by have := Hrn3.out; omega, Har, HP12, HF3, HR5⟩
              case measure => simp [intOf]; omega
            · have hv2b : (xv != (q3 : Int)) = true := by simp [hv2]
              have He : Hid (R = (none, 42)) := Hnone.out (by rw [Hme2.out, if_neg (by simpa using hv1), if_neg (by simpa using hv2)])
              clear hv1 hv2
              have r_k0 := cell_regrown k0
              have r_k1 := cell_regrown k1
              have r_k2' := cell_regrown k2'
              have r_k3' := cell_regrown k3'
              have r_l0' := cell_regrown l0'
              have r_l1' := cell_regrown l1'
              have r_l2' := cell_regrown l2'
              have r_l3' := cell_regrown l3'
              have r_hc4 := cell_regrown hc4
              have r_e1 := cell_regrown e1
              go_wp2_with fail
              refine wp_region_qb (by kernel_rfl) (by kernel_rfl) ?_
              repeat (go_big_quiet_step (first | fail))
              refine wpQuiet_nil ?_
              intro w12 B12
              have Q12 := Lib.hid (bot HP11.out.bel B12)
              clear k0 l0' B12 k1 k2' k3' l1' l2' l3' e1 hc4 r_k0 r_k1 r_k2' r_k3' r_l0' r_l1' r_l2' r_l3' r_hc4 r_e1 hneq hbn
              go_wp2_with fail
              go_ret2
              refine ⟨⟨_, ret_pair He.out, ?_⟩, bot HB0.out Q12.out⟩
              rw [He.out]; exact SlV.nil_ _ _ _
end Go.Proofs.YthbnmehbhpakaaaGreatDoor
