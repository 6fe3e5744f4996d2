/-
  walkup.Map.
-/
import Derived.Test.YthbnmehbhpakaaaGreatDoorDi18
import Derived.Test.YthbnmehbhpakaaaGreatDoorDi07
import Derived.OwnWalk
import Derived.Deep.LoopGhost
set_option autoImplicit false
set_option relaxedAutoImplicit false
set_option linter.unusedVariables false
set_option linter.unusedSimpArgs false
namespace Go.Proofs.YthbnmehbhpakaaaGreatDoor
open Go.Rows Go.RowKit Go.Shelf Go.Sort

theorem elt_int : Elt Tryz.prog 3 1 8 := Elt.mk' (z := .int .i64 0) (by kernel_rfl) rfl (by decide)
theorem fill_set {n k : Nat} (h : k < n) : (List.replicate k (-1 : Int) ++ List.replicate (n - k) 0).set k (-1) = List.replicate (k + 1) (-1) ++ List.replicate (n - (k + 1)) 0 := by
  rw [List.set_append_right _ _ (by simp), List.length_replicate, Nat.sub_self, show n - k = (n - (k + 1)) + 1 by omega, List.replicate_succ, List.set_cons_zero, List.replicate_succ', List.append_assoc]
  rfl
theorem fill_len {n k : Nat} (h : k ≤ n) : (List.replicate k (-1 : Int) ++ List.replicate (n - k) 0).length = n := by simp; omega
theorem map0_of {n : Nat} (h : 0 < n) : (List.replicate n (-1 : Int)).set 0 0 = (map0 n).1 := by
  obtain ⟨k, rfl⟩ : ∃ k, n = k + 1 := ⟨n - 1, by omega⟩
  rw [List.replicate_succ]
  rfl
/-- the cells of the two rows that the call owns, and what they say -/
def castN (l : List Nat) : List Int := l.map fun (r : Nat) => (r : Int)
structure MapAt (w0 wr : World) (g : Nat) (n gl : Nat) (g2 k2 c2 : Nat) (m : List Int) (rest : List Nat) : Prop where
  m_ : IRow wr w0.heap.size g 0 n m
  r_ : IRow wr w0.heap.size g2 k2 c2 (castN rest)
  ne : g2 ≠ g
  inv : MInv n gl (m, rest)
  bel : Below w0.heap.size w0 wr
theorem MapAt.keep {w0 w1 w2 : World} {g n gl g2 k2 c2 : Nat} {m : List Int} {rest : List Nat} (h : MapAt w0 w1 g n gl g2 k2 c2 m rest) (hb : Below w1.heap.size w1 w2) : MapAt w0 w2 g n gl g2 k2 c2 m rest :=
  ⟨h.m_.keep hb, h.r_.keep hb, h.ne, h.inv, bot h.bel hb⟩
theorem MapAt.tail {w0 w1 : World} {g n gl g2 k2 c2 a : Nat} {m : List Int} {rest : List Nat} (h : MapAt w0 w1 g n gl g2 k2 c2 m (a :: rest)) : MapAt w0 w1 g n gl g2 (k2 + 1) (c2 - 1) m rest :=
  ⟨h.m_, IRow.tail h.r_, h.ne, ⟨h.inv.len, h.inv.rng, fun r hr => h.inv.rest r (List.mem_cons_of_mem _ hr)⟩, h.bel⟩
theorem MapAt.tail0 {w0 w1 : World} {g n gl g2 k2 c2 a : Nat} {m : List Int} {rest : List Nat} (h : MapAt w0 w1 g n gl g2 k2 c2 m (a :: rest)) (hc : c2 = 1) : MapAt w0 w1 g n gl g2 k2 0 m rest := by
  subst hc
  have hle := h.r_.le
  have hr0 : rest = [] := by simpa [castN] using hle
  subst hr0
  exact ⟨h.m_, ⟨h.r_.lo, Nat.le_refl _, Nat.zero_le _, h.r_.lt, fun j x hj => by simp [castN] at hj, fun j hj => absurd hj (Nat.not_lt_zero _)⟩, h.ne, ⟨h.inv.len, h.inv.rng, fun r hr => by cases hr⟩, h.bel⟩
theorem cell_new1 (W : World) (v : Value) (t : TypeId) (n : Nat) (h : n = W.heap.size) : (W.alloc (.cells #[v] t)).cell? ⟨n, 0, none⟩ = some v := by
  subst h; simp [go_sem]
theorem ret_pair {v : Value} {R : Option (List Int) × Int} {r : Option (List Int)} {z : Int} (h : R = (r, z)) : Ending.returned (.tuple #[v, .int .i64 z]) = .returned (.tuple #[v, .int .i64 R.2]) := by rw [h]
theorem below_setCell {B : Nat} {w w' : World} (h : Below B w w') {g o : Nat} (hg : B ≤ g) (v : Value) : Below B w (w'.setCell ⟨g, o, none⟩ v) := h.setCell (p := ⟨g, o, none⟩) hg v

set_option maxHeartbeats 6400000 in
set_option maxRecDepth 100000 in
theorem map_any (A B : Option Addr) (n c m d : Nat) (xs : List Dir) (gs : List Node) (w : World) (S T : Nat → Prop) (ht : Tab w) (hlen : ∀ d ∈ xs, d.path.length * 32 ≤ 140737488355328) (hx : SlV rDir w S xs (.slice A n c)) (hg : SlV rNode w T gs (.slice B m d)) :
    Calls Tryz.prog 41 #[.agg #[.slice A n c], .agg #[.slice B m d]] w fun e w' =>
      (∃ v, e = .returned (.tuple #[v, .int .i64 (mapR xs gs).2]) ∧ SlV rInt w' (fun b => w.heap.size ≤ b) ((mapR xs gs).1.getD []) v) ∧ Below w.heap.size w w' := by
  have hnx := hx.n_eq
  have hmg := hg.n_eq
  have hcx := hx.cap_le
  have hcg := hg.cap_le
  unfold maxLen at hcx hcg
  have hn63 : n ≤ 9223372036854775807 := by omega
  have hm63 : m ≤ 9223372036854775807 := by omega
  have HX := Lib.hid (hx.more (S' := fun b => b < w.heap.size) fun b _ h => h)
  have HG := Lib.hid (hg.more (S' := fun b => b < w.heap.size) fun b _ h => h)
  have Hck : Hid (∀ W, Below w.heap.size w W → Calls Tryz.prog 103 #[.agg #[.slice A n c]] W fun e w' => e = .returned (.int .i64 (checkE xs)) ∧ Below W.heap.size W w') := fun W hW => check_any A n c xs W _ (tab_below ht hW) hlen (hx.belowSize hW)
  have Hfm : Hid (∀ W, Below w.heap.size w W → Calls Tryz.prog 104 #[.agg #[.slice B m d]] W fun e w' => e = .returned (.bool (formedB gs)) ∧ Below W.heap.size W w') := fun W hW => formed_any B m d gs W _ (hg.belowSize hW)
  have Hlk : Hid (∀ W (i : Int) (s : ByteArray), s.size ≤ maxLen → Below w.heap.size w W → Calls Tryz.prog 19 #[.agg #[.slice A n c], .int .i64 i, .string s] W fun e w' => e = .returned (.int .i64 (lookI xs i s)) ∧ Below W.heap.size W w') := fun W i s hs hW => look_any A n c xs s W _ i hs hlen (hx.belowSize hW)
  have Hnx := Lib.hid hnx
  have Hmg := Lib.hid hmg
  have Hc1 : Hid (checkE xs ≠ 0 → mapR xs gs = (none, 42)) := fun h => by unfold mapR; rw [if_pos h]
  have Hc2 : Hid (checkE xs = 0 → formedB gs = false → mapR xs gs = (none, 33)) := fun h h' => by unfold mapR; rw [if_neg (by simp [h]), if_pos h']
  have Hc3 : Hid (checkE xs = 0 → formedB gs = true → ∀ r, mapLoop xs gs (xs.length + 1) (map0 xs.length) = r → mapR xs gs = (match r with | none => (none, 42) | some m => (some m, 0))) := fun h h' r hr => by unfold mapR; rw [if_neg (by simp [h]), if_neg (by simp [h']), hr]; cases r <;> rfl
  have Hl0 : Hid (checkE xs = 0 → 0 < n ∧ n ≤ 257) := fun h => by
    rw [hnx]
    unfold checkE at h
    split at h
    · exact absurd h (by decide)
    · omega
  have Hed := Lib.hid (fun (h : formedB gs = true) => formed_edges h)
  clear hx hg hlen ht hcx hcg hnx hmg
  generalize mapR xs gs = R at *
  generalize checkE xs = E at *
  generalize hfb : formedB gs = F at *
  go_enter Tryz.func41, Tryz.ntmps41
  go_wp2_with fail
  obtain ⟨w0, hw0⟩ : ∃ w0, w0 = (w.alloc (.cells #[.slice A n c] 30)).alloc (.cells #[.slice B m d] 27) := ⟨_, rfl⟩
  have hz : w.heap.size < w0.heap.size := by rw [hw0]; simp [go_sem]
  have hz1 : w.heap.size + 1 < w0.heap.size := by rw [hw0]; simp [go_sem]
  have HB0 : Hid (Below w.heap.size w w0) := by unfold Hid; rw [hw0]; exact bal (bal (Below.refl _ _) _) _
  have a0 : w0.cell? ⟨w.heap.size, 0, none⟩ = some (.slice A n c) := by rw [hw0]; simp [go_sem]
  have a1 : w0.cell? ⟨w.heap.size + 1, 0, none⟩ = some (.slice B m d) := by rw [hw0]; simp [go_sem]
  rw [← hw0]
  clear hw0
  have HA0 : Hid (w0.cell? ⟨w.heap.size, 0, none⟩ = some (.slice A n c) ∧ w0.cell? ⟨w.heap.size + 1, 0, none⟩ = some (.slice B m d)) := ⟨a0, a1⟩
  refine (Hck.out w0 HB0.out).mono ?_
  rintro e w1 ⟨rfl, B1⟩
  have Q1 := Lib.hid B1; clear B1 Hck
  have b0 := below_cell Q1.out a0 hz
  have b1 := below_cell Q1.out a1 hz1
  clear a0 a1
  by_cases hE : E = 0
  case neg =>
    have hEb : (E != 0) = true := by simp [hE]
    have He : Hid (R = (none, 42)) := Hc1.out hE
    clear hE
    go_wp2_with fail
    go_ret2
    refine ⟨⟨_, ret_pair He.out, ?_⟩, bot HB0.out Q1.out⟩
    rw [He.out]; exact SlV.nil_ _ _ _
  have hEb : (E != 0) = false := by simp [hE]
  have HE := Lib.hid hE; clear hE
  go_wp2_with fail
  refine (Hfm.out w1 (bot HB0.out Q1.out)).mono ?_
  rintro e w2 ⟨rfl, B2⟩
  have Q2 := Lib.hid (bot Q1.out B2); clear B2 Hfm b0 b1
  have b0 := below_cell Q2.out HA0.out.1 hz
  have b1 := below_cell Q2.out HA0.out.2 hz1
  cases hF : F
  · have He : Hid (R = (none, 33)) := Hc2.out HE.out hF
    clear hF
    go_wp2_with fail
    go_ret2
    refine ⟨⟨_, ret_pair He.out, ?_⟩, bot HB0.out Q2.out⟩
    rw [He.out]; exact SlV.nil_ _ _ _
  have HFm : Hid (formedB gs = true) := by unfold Hid; rw [hfb, hF]
  have HR0 : Hid (∀ r, mapLoop xs gs (xs.length + 1) (map0 xs.length) = r → R = (match r with | none => (none, 42) | some m => (some m, 0))) := Hc3.out HE.out hF
  have HED : Hid (0 < gs.length ∧ ∀ x ∈ gs, x.edges.all (edgeB gs.length) = true) := Hed.out hF
  obtain ⟨hn0, hn257⟩ := Hl0.out HE.out
  clear Hc1 Hc2 Hc3 Hed hfb hF Hl0
  clear F
  obtain ⟨i, hi, hiz, hsz, hby⟩ := info_parts (P := Tryz.prog) (e := 3) (show (Tryz.prog.info? 3).map (fun i => (i.zero, i.size, i.bytes)) = some (some (.int .i64 0), 1, 8) by kernel_rfl)
  have hw2s := Q2.out.size
  go_wp2_with (at_make; refine wpList_make_full w2 (by rfl) _ _ _ (by rfl) w0.heap.size 3 i _ 1 Tryz.underlying75 hi hiz hsz .i64 .i64 _ _ n (by rfl) (by rfl) rfl rfl (by rw [hby]; omega) (by unfold maxLen; omega) hw2s ?_)
  intro w3 hown hgrow
  have Q3 : Hid (Below w0.heap.size w0 w3) := Q2.out.grown hgrow (by exact hw2s) (fun k hk => by cases hk)
  rw [toList_madeCells_one] at hown
  have HM3 : Hid (IRow w3 w0.heap.size w2.heap.size 0 n (List.replicate 0 (-1) ++ List.replicate (n - 0) 0)) := by
    have e1 : (List.replicate 0 (-1 : Int) ++ List.replicate (n - 0) 0).length = n := fill_len (Nat.zero_le _)
    refine IRow.of_owns (e := 3) ?_
    rw [e1]
    have e2 : (List.replicate 0 (-1 : Int) ++ List.replicate (n - 0) 0).map (Value.int .i64) = List.replicate n (.int .i64 0) := by simp
    rw [e2]
    exact hown
  clear hown hgrow hi hiz hsz hby b0 b1
  generalize w2.heap.size = g at *
  clear Q2 hw2s
  go_wp2_with fail
  go_loopw [25] (fun i wr => ∃ k : Nat, k ≤ n ∧ i = .int .i64 k ∧ Hid (IRow wr w0.heap.size g 0 n (List.replicate k (-1) ++ List.replicate (n - k) 0)) ∧ Below w0.heap.size w0 wr) (fun i _ => n - (intOf i).toNat)
  case atStart => exact ⟨0, Nat.zero_le _, rfl, HM3, Q3.out⟩
  case round =>
    obtain ⟨k, hk, rfl, hrow, hbel⟩ := hrel
    by_cases hlt : k < n
    · have hk0 : (0 : Int) ≤ (k : Int) := by omega
      have hkn : (k : Int) < (n : Int) := by omega
      have h1 := hrow.out.get (j := k) (by rw [fill_len hk]; exact hlt)
      have h2 := hrow.out.frozen hlt
      rw [Nat.zero_add] at h1 h2
      generalize (List.replicate k (-1 : Int) ++ List.replicate (n - k) 0)[k]'(by rw [fill_len hk]; exact hlt) = v0 at *
      have HS : Hid (IRow (wr.setCell ⟨g, k, none⟩ (.int .i64 (-1))) w0.heap.size g 0 n (List.replicate (k + 1) (-1) ++ List.replicate (n - (k + 1)) 0)) := by
        have := (hrow.out.set (j := k) (by rw [fill_len hk]; exact hlt) (-1)).1
        rw [fill_set hlt, Nat.zero_add] at this
        exact this
      have HBs : Hid (Below w0.heap.size w0 (wr.setCell ⟨g, k, none⟩ (.int .i64 (-1)))) := below_setCell hbel hrow.out.lo _
      clear hrow
      go_wp2_with fail
      go_roundw
      case rel => exact ⟨k + 1, by omega, by go_num, HS, HBs.out⟩
      case measure => simp [intOf]; omega
    · obtain rfl : k = n := by omega
      have hrow' : Hid (IRow wr w0.heap.size g 0 k (List.replicate k (-1))) := by
        have := hrow.out
        rw [Nat.sub_self, List.replicate_zero, List.append_nil] at this
        exact this
      have h1 := hrow'.out.get (j := 0) (by simpa using hn0)
      have h2 := hrow'.out.frozen hn0
      rw [List.getElem_replicate] at h1
      rw [Nat.zero_add] at h1 h2
      have HS : Hid (IRow (wr.setCell ⟨g, 0, none⟩ (.int .i64 0)) w0.heap.size g 0 k (map0 k).1) := by
        have := (hrow'.out.set (j := 0) (by simpa using hn0) 0).1
        rw [map0_of hn0, Nat.zero_add] at this
        exact this
      have HBs : Hid (Below w0.heap.size w0 (wr.setCell ⟨g, 0, none⟩ (.int .i64 0))) := below_setCell hbel hrow'.out.lo _
      have hgl : g < (wr.setCell ⟨g, 0, none⟩ (.int .i64 0)).heap.size := HS.out.lt
      clear hrow hrow' hlt
      go_wp2_with fail
      obtain ⟨w4, hw4⟩ : ∃ w4, w4 = wr.setCell ⟨g, 0, none⟩ (.int .i64 0) := ⟨_, rfl⟩
      rw [← hw4] at HS HBs hgl ⊢
      clear hgl
      obtain ⟨w5, hw5⟩ : ∃ w5, w5 = w4.alloc (.cells #[.int .i64 0] 3) := ⟨_, rfl⟩
      have HP5 : Hid (MapAt w0 w5 g k gs.length w4.heap.size 0 1 (map0 k).1 [0]) := by
        have hs4 := HBs.out.size
        rw [hw5]
        exact ⟨HS.out.alloc _, IRow.lit _ _ _ _ hs4, by have := HS.out.lt; omega, (MInv.start hn0 HED.out.1).1, bal HBs.out _⟩
      have HF5 : Hid (freeN (map0 k).1 + [0].length < k + 1 ∧ k + 1 ≤ k + 1) := by
        have := (MInv.start (n := k) (gl := gs.length) hn0 HED.out.1).2
        unfold Hid
        have e : (map0 k).2 = [0] := rfl
        rw [e] at this
        exact ⟨by omega, Nat.le_refl _⟩
      have HR5 : Hid (∀ r, mapLoop xs gs (k + 1) ((map0 k).1, [0]) = r → R = (match r with | none => (none, 42) | some m => (some m, 0))) := fun r hr => HR0.out r (by rw [← Hnx.out]; exact hr)
      rw [← hw5]
      have hsz4 : w4.heap.size = wr.heap.size := by rw [hw4]; simp
      rw [hsz4] at HP5
      clear hw5 hw4 HS HBs HR0 HM3 Q3 hsz4
      generalize wr.heap.size = g4 at *
      go_loopg [8] (k + 1) (fun f v wr => ∃ (g2 k2 c2 : Nat) (mm : List Int) (rest : List Nat), v = .slice (some ⟨g2, k2, none⟩) rest.length c2 ∧ Hid (MapAt w0 wr g k gs.length g2 k2 c2 mm rest) ∧ Hid (freeN mm + rest.length < f ∧ f ≤ k + 1) ∧ Hid (∀ r, mapLoop xs gs f (mm, rest) = r → R = (match r with | none => (none, 42) | some m => (some m, 0))))
      case atStart => exact ⟨g4, 0, 1, _, [0], rfl, HP5, HF5, HR5⟩
      case round =>
        clear HP5 HF5 HR5
        obtain ⟨g2, k2, c2, mm, rest, rfl, HP, HF, HRf⟩ := hrel
        have b0 := below_cell HP.out.bel HA0.out.1 hz
        have b1 := below_cell HP.out.bel HA0.out.2 hz1
        obtain ⟨f, rfl⟩ : ∃ f, gk = f + 1 := ⟨gk - 1, by have := HF.out.1; omega⟩
        cases rest with
        | nil =>
          have He : Hid (R = (some mm, 0)) := HRf.out (some mm) (by rw [mapLoop])
          have hml := HP.out.inv.len
          go_wp2_with fail
          go_ret2
          refine ⟨⟨_, ret_pair He.out, ?_⟩, bot HB0.out HP.out.bel⟩
          rw [He.out]
          refine SlV.more ?_ (fun b hb _ => Nat.le_trans HB0.out.size hb)
          have hsl := HP.out.m_.slv (fun x hx => by have := HP.out.inv.rng x hx; have := Hmg.out; unfold I64; omega)
          rw [show mm.length = k from hml] at hsl
          exact hsl
        | cons a rest =>
          obtain ⟨x, hx, hx0⟩ := HP.out.inv.rest a (by simp)
          obtain ⟨q, rfl⟩ : ∃ q : Nat, x = (q : Int) := ⟨x.toNat, by omega⟩
          have hrng := HP.out.inv.rng _ (List.mem_of_getElem? hx)
          have hml : mm.length = k := HP.out.inv.len
          have hxg : mm[a]? = some (q : Int) := hx
          have hak : a < k := by have := (List.getElem?_eq_some_iff.1 hxg).1; omega
          have hqg : q < gs.length := by omega
          have hqm : (q : Int) < (m : Int) := by have := Hmg.out; omega
          have hq0 : (0 : Int) ≤ (q : Int) := by omega
          have hakI : (a : Int) < (k : Int) := by omega
          have ha0 : (0 : Int) ≤ (a : Int) := by omega
          have hr0 := HP.out.r_.at_ 0 (a : Int) rfl
          rw [Nat.add_zero] at hr0
          have hma := HP.out.m_.at_ a _ hxg
          rw [Nat.zero_add] at hma
          have hc2 : rest.length + 1 ≤ c2 := by have := HP.out.r_.le; simpa [castN] using this
          have hc2m := HP.out.r_.max
          unfold maxLen at hc2m
          obtain ⟨b', oo, cs, hBe, hSb, hb1, hh, hcell⟩ := HG.out.elem (List.getElem?_eq_getElem hqg)
          obtain ⟨s0, s1, rfl, _, _, _, _, hp1, hp2⟩ := hh
          obtain ⟨qA, qa, rfl, hq1, hq2⟩ := hp2.val
          unfold maxLen at hq2
          subst hBe
          have c5 := below_cell (bot HB0.out HP.out.bel) (hcell 5 _ rfl) hb1
          simp only [rNode, Nat.add_zero] at c5
          have hese : edgesOf gs (mm.getD a 0) = gs[q].edges := by
            rw [List.getD_eq_getElem?_getD, hxg]
            unfold edgesOf
            simp only [Option.getD_some, Int.toNat_natCast, List.getElem?_eq_getElem hqg]
          have HR1 : Hid (∀ r, mapNext xs gs f (mapEdges xs gs a (gs[q].edges.drop 0) (mm, rest)) = r → R = (match r with | none => (none, 42) | some m => (some m, 0))) := fun r hr => HRf.out r (by rw [mapLoop_cons, hese]; exact hr)
          have HES := Lib.hid hp2
          have Hall : Hid (gs[q].edges.all (edgeB gs.length) = true) := HED.out.2 _ (List.getElem_mem hqg)
          have HF1 : Hid (freeN mm + rest.length < f) := by have := HF.out.1; unfold Hid; simp at this; omega
          have Hfk : Hid (f + 1 ≤ k + 1) := HF.out.2
          have Htl0 : Hid (c2 = 1 → MapAt w0 wr g k gs.length g2 k2 0 mm rest) := fun h => HP.out.tail0 h
          have Htl1 := Lib.hid HP.out.tail
          clear hcell hp1 hp2 hx hxg hese hrng hx0 HF HRf
          generalize gs[q].edges = es at *
          generalize hl1 : es.length = l1 at *
          have Hl1 := Lib.hid hl1; clear hl1
          have r_b0 := cell_regrown b0
          have r_b1 := cell_regrown b1
          have r_hma := cell_regrown hma
          have r_c5 := cell_regrown c5
          go_wp2_with fail
          all_goals
            first
              | (have HP1 := Lib.hid (Htl0.out (by assumption)))
              | (have HP1 := Lib.hid Htl1.out)
            go_wp2_with fail
            refine wp_region_qb (by kernel_rfl) (by kernel_rfl) ?_
            repeat (go_big_quiet_step (first | fail))
            refine wpQuiet_nil ?_
            intro w6 B6
            have HP6 := Lib.hid (HP1.out.keep B6)
            clear h h1 h2 hbel HP HP1 b0 b1 hma c5 r_b0 r_b1 r_hma r_c5 hr0 B6 Htl0 Htl1
            go_wp2_with fail
            go_loopw [8, 53] (fun v i wi => ∃ (j g3 k3 c3 : Nat) (m3 : List Int) (r3 : List Nat), j ≤ l1 ∧ i = .int .i64 j ∧ v = .slice (some ⟨g3, k3, none⟩) r3.length c3 ∧ Hid (MapAt w0 wi g k gs.length g3 k3 c3 m3 r3) ∧ Hid (freeN m3 + r3.length < f) ∧ Hid (∀ r, mapNext xs gs f (mapEdges xs gs a (es.drop j) (m3, r3)) = r → R = (match r with | none => (none, 42) | some m => (some m, 0)))) (fun _ i _ => l1 - (intOf i).toNat)
            case atStart => exact ⟨0, g2, _, _, mm, rest, Nat.zero_le _, rfl, rfl, HP6, HF1, HR1⟩
            case round =>
              clear HP6 HF1 HR1
              obtain ⟨j, g3, k3, c3, m3, r3, hj, rfl, rfl, HP3, HF3, HR3⟩ := hrel
              have b0 := below_cell HP3.out.bel HA0.out.1 hz
              have b1 := below_cell HP3.out.bel HA0.out.2 hz1
              have Hml : Hid (m3.length = k) := HP3.out.inv.len
              by_cases hlj : j < l1
              case neg =>
                have HR4 : Hid (∀ r, mapLoop xs gs f (m3, r3) = r → R = (match r with | none => (none, 42) | some m => (some m, 0))) := fun r hr => HR3.out r (by rw [List.drop_eq_nil_of_le (by have := Hl1.out; omega), mapEdges]; exact hr)
                clear HR3
                go_wp2_with fail
                go_roundg f
                case measure => omega
                case rel => exact ⟨g3, k3, c3, m3, r3, rfl, HP3, ⟨HF3.out, by have := Hfk.out; omega⟩, HR4⟩
              case pos =>
              have hjy : j < es.length := by have := Hl1.out; omega
              obtain ⟨b2, o2, cs2, rfl, _, hb2, ⟨rfl, hls, hti⟩, hcell2⟩ := (HES.out.below (bot HB0.out HP3.out.bel) (fun b h => h)).elem (List.getElem?_eq_getElem hjy)
              have d0 := hcell2 0 _ rfl
              have d1 := hcell2 1 _ rfl
              simp only [rEdge, Nat.add_zero] at d0 d1
              have hedge : edgeB gs.length es[j] = true := List.all_eq_true.1 Hall.out _ (List.getElem_mem hjy)
              have Hedge := Lib.hid hedge
              unfold edgeB at hedge
              simp only [Bool.and_eq_true, decide_eq_true_eq] at hedge
              have Hat := Lib.hid (mapEdges_at xs gs a hjy (m3, r3))
              clear hcell2
              have hj0 : (0 : Int) ≤ (j : Int) := by omega
              have hjl : (j : Int) < (l1 : Int) := by omega
              obtain ⟨ed, hed⟩ : ∃ ed, ed = es[j] := ⟨_, rfl⟩
              rw [← hed] at d0 d1 hedge Hedge Hat hls hti
              clear hed
              obtain ⟨lb, tq⟩ := ed
              simp only at d0 d1 hedge hls hti
              obtain ⟨q3, rfl⟩ : ∃ q3 : Nat, tq = (q3 : Int) := ⟨tq.toNat, by omega⟩
              have hq3 : q3 < gs.length := by omega
              have hq3m : (q3 : Int) < (m : Int) := by have := Hmg.out; omega
              have hq30 : (0 : Int) ≤ (q3 : Int) := by omega
              have hq31 : (1 : Int) ≤ (q3 : Int) := hedge.1
              clear hedge
              have Hls := Lib.hid hls; clear hls hti
              have hzr : w.heap.size < wr.heap.size := Nat.lt_of_lt_of_le hz HP3.out.bel.size
              have bo : ∀ o : Obj, (wr.alloc o).cell? ⟨w.heap.size, 0, none⟩ = some (.slice A k c) := fun o => below_cell (bal (Below.refl _ _) o) b0 hzr
              go_wp2_with fail
              obtain ⟨w7, hw7⟩ : ∃ w7, w7 = wr.alloc (.cells #[.string lb, .int .i64 q3] 65) := ⟨_, rfl⟩
              have hzi : wr.heap.size < w7.heap.size := by rw [hw7]; simp [go_sem]
              have HB7 : Hid (Below wr.heap.size wr w7) := by unfold Hid; rw [hw7]; exact bal (Below.refl _ _) _
              have e0 : w7.cell? ⟨wr.heap.size, 0, none⟩ = some (.string lb) := by rw [hw7]; simp [go_sem]
              have e1 : w7.cell? ⟨wr.heap.size, 1, none⟩ = some (.int .i64 q3) := by rw [hw7]; simp [go_sem]
              rw [← hw7]
              clear hw7 d0 d1 b0 b1 bo hzr
              have HP7 : Hid (MapAt w0 w7 g k gs.length g3 k3 c3 m3 r3) := HP3.out.keep HB7.out
              have b0 := below_cell HP7.out.bel HA0.out.1 hz
              refine (Hlk.out w7 (a : Int) lb Hls.out (bot HB0.out HP7.out.bel)).mono ?_
              rintro e w8 ⟨rfl, B8⟩
              have f0 := below_cell B8 e0 hzi
              have f1 := below_cell B8 e1 hzi
              have hz8 : wr.heap.size < w8.heap.size := Nat.lt_of_lt_of_le hzi B8.size
              have HP8 : Hid (MapAt w0 w8 g k gs.length g3 k3 c3 m3 r3) := HP7.out.keep B8
              clear B8 e0 e1 b0 HP7 HP3 HB7
              have b0 := below_cell HP8.out.bel HA0.out.1 hz
              have b1 := below_cell HP8.out.bel HA0.out.2 hz1
              have hrg := lookI_range xs a lb
              have Hnone : Hid (mapEdge xs gs a (m3, r3) ⟨lb, q3⟩ = none → R = (none, 42)) := fun h => HR3.out none (by rw [Hat.out, h]; rfl)
              have Hsome : Hid (∀ s', mapEdge xs gs a (m3, r3) ⟨lb, q3⟩ = some s' → ∀ r, mapNext xs gs f (mapEdges xs gs a (es.drop (j + 1)) s') = r → R = (match r with | none => (none, 42) | some m => (some m, 0))) := fun s' h r hr => HR3.out r (by rw [Hat.out, h]; exact hr)
              have Hme : Hid (mapEdge xs gs a (m3, r3) ⟨lb, q3⟩ = if 0 ≤ lookI xs a lb ∧ packIs xs gs (lookI xs a lb).toNat q3 = true then
                  (if m3[(lookI xs a lb).toNat]? = some (-1) then some (m3.set (lookI xs a lb).toNat q3, r3 ++ [(lookI xs a lb).toNat]) else if m3[(lookI xs a lb).toNat]? = some (q3 : Int) then some (m3, r3) else none) else none) := by
                unfold Hid mapEdge
                simp only [Int.toNat_natCast]
              clear HR3 Hat
              have HME : Hid (∀ s', mapEdge xs gs a (m3, r3) ⟨lb, q3⟩ = some s' → MInv k gs.length s' ∧ freeN s'.1 + s'.2.length = freeN m3 + r3.length) := fun s' h => by
                obtain ⟨i1, i2, _⟩ := MInv.edge HP8.out.inv Hedge.out h
                exact ⟨i1, i2⟩
              generalize mapEdge xs gs a (m3, r3) ⟨lb, q3⟩ = ME at *
              generalize lookI xs a lb = L at *
              by_cases hL : L < 0
              · have hLd : decide (L < 0) = true := decide_eq_true hL
                have He : Hid (R = (none, 42)) := Hnone.out (by rw [Hme.out, if_neg (by omega)])
                clear hrg
                have r_b0 := cell_regrown b0
                have r_b1 := cell_regrown b1
                have r_f0 := cell_regrown f0
                have r_f1 := cell_regrown f1
                go_wp2_with fail
                refine wp_region_qb (by kernel_rfl) (by kernel_rfl) ?_
                repeat (go_big_quiet_step (first | fail))
                refine wpQuiet_nil ?_
                intro w9 B9
                go_wp2_with fail
                go_ret2
                refine ⟨⟨_, ret_pair He.out, ?_⟩, bot HB0.out (bot HP8.out.bel B9)⟩
                rw [He.out]; exact SlV.nil_ _ _ _
              have hLd : decide (L < 0) = false := decide_eq_false hL
              obtain ⟨q4, rfl⟩ : ∃ q4 : Nat, L = (q4 : Int) := ⟨L.toNat, by omega⟩
              have hq4x : q4 < xs.length := by omega
              have hq4 : q4 < k := by have := Hnx.out; omega
              have hq40 : (0 : Int) ≤ (q4 : Int) := by omega
              have hq4k : (q4 : Int) < (k : Int) := by omega
              simp only [Int.toNat_natCast] at Hme
              have Hpi : Hid (packIs xs gs q4 q3 = (decide (xs[q4].pack.name = gs[q3].name) && eqB xs[q4].pack.ver gs[q3].ver)) := packIs_at hq4x hq3
              have hq4m : q4 < m3.length := by have := Hml.out; omega
              have Hm4 : Hid (m3[q4]? = some m3[q4]) := List.getElem?_eq_getElem hq4m
              obtain ⟨bx, ox, csx, hAe, hSx, hbx, hhx, hcellx⟩ := HX.out.elem (List.getElem?_eq_getElem hq4x)
              obtain ⟨s0, s1, s2, s3, rfl, _, _, _, _, _, _, _, _, _⟩ := hhx
              obtain ⟨bg, og, csg, hBe, hSg, hbg, hhg, hcellg⟩ := HG.out.elem (List.getElem?_eq_getElem hq3)
              obtain ⟨t0, t1, rfl, _, _, _, _, _, _⟩ := hhg
              subst hAe
              simp only [Option.some.injEq, Addr.mk.injEq] at hBe
              obtain ⟨rfl, rfl, _⟩ := hBe
              have hbx8 := bot HB0.out HP8.out.bel
              have x1 := below_cell hbx8 (hcellx 1 _ rfl) hbx
              have x2 := below_cell hbx8 (hcellx 2 _ rfl) hbx
              have x3 := below_cell hbx8 (hcellx 3 _ rfl) hbx
              have x4 := below_cell hbx8 (hcellx 4 _ rfl) hbx
              have y0 := below_cell hbx8 (hcellg 0 _ rfl) hbg
              have y1 := below_cell hbx8 (hcellg 1 _ rfl) hbg
              have y2 := below_cell hbx8 (hcellg 2 _ rfl) hbg
              have y3 := below_cell hbx8 (hcellg 3 _ rfl) hbg
              simp only [rDir, rNode, Nat.add_zero] at x1 x2 x3 x4 y0 y1 y2 y3
              clear hcellx hcellg hbx8
              have Hve : Hid (xs[q4].pack.ver = gs[q3].ver ↔ (xs[q4].pack.ver.major = gs[q3].ver.major ∧ xs[q4].pack.ver.minor = gs[q3].ver.minor ∧ xs[q4].pack.ver.patch = gs[q3].ver.patch)) := by
                unfold Hid
                constructor
                · intro h; rw [h]; exact ⟨rfl, rfl, rfl⟩
                · rintro ⟨h1, h2, h3⟩
                  cases hv1 : xs[q4].pack.ver
                  cases hv2 : gs[q3].ver
                  rw [hv1, hv2] at h1 h2 h3
                  simp only at h1 h2 h3
                  subst h1; subst h2; subst h3; rfl
              have hneq := fun W => neq_ver W xs[q4].pack.ver.major xs[q4].pack.ver.minor xs[q4].pack.ver.patch gs[q3].ver.major gs[q3].ver.minor gs[q3].ver.patch
              generalize xs[q4].pack.ver = v1 at *
              generalize gs[q3].ver = v2 at *
              generalize xs[q4].pack.name = p1 at *
              generalize gs[q3].name = p2 at *
              by_cases hnm : p1 = p2
              case neg =>
                have hbn := beq_false hnm
                have He : Hid (R = (none, 42)) := Hnone.out (by rw [Hme.out, Hpi.out, decide_eq_false hnm]; simp)
                clear hnm hrg hneq
                have r_b0 := cell_regrown b0
                have r_b1 := cell_regrown b1
                have r_f0 := cell_regrown f0
                have r_f1 := cell_regrown f1
                have r_x1 := cell_regrown x1
                have r_y0 := cell_regrown y0
                go_wp2_with fail
                refine wp_region_qb (by kernel_rfl) (by kernel_rfl) ?_
                repeat (go_big_quiet_step (first | fail))
                refine wpQuiet_nil ?_
                intro w9 B9
                go_wp2_with fail
                go_ret2
                refine ⟨⟨_, ret_pair He.out, ?_⟩, bot HB0.out (bot HP8.out.bel B9)⟩
                rw [He.out]; exact SlV.nil_ _ _ _
              have hbn := beq_true hnm
              by_cases hvr : v1 = v2
              case neg =>
                have hvf : decide (v1.major = v2.major ∧ v1.minor = v2.minor ∧ v1.patch = v2.patch) = false := decide_eq_false fun h => hvr (Hve.out.2 h)
                have He : Hid (R = (none, 42)) := Hnone.out (by rw [Hme.out, Hpi.out, eqB_false hvr]; simp)
                rw [hvf] at hneq
                clear hnm hrg hvr hvf
                generalize v1.major = z1 at *
                generalize v1.minor = z2 at *
                generalize v1.patch = z3 at *
                generalize v2.major = z4 at *
                generalize v2.minor = z5 at *
                generalize v2.patch = z6 at *
                have r_b0 := cell_regrown b0
                have r_b1 := cell_regrown b1
                have r_f0 := cell_regrown f0
                have r_f1 := cell_regrown f1
                have r_x1 := cell_regrown x1
                have r_x2 := cell_regrown x2
                have r_x3 := cell_regrown x3
                have r_x4 := cell_regrown x4
                have r_y0 := cell_regrown y0
                have r_y1 := cell_regrown y1
                have r_y2 := cell_regrown y2
                have r_y3 := cell_regrown y3
                go_wp2_with fail
                refine wp_region_qb (by kernel_rfl) (by kernel_rfl) ?_
                repeat (go_big_quiet_step (first | fail))
                refine wpQuiet_nil ?_
                intro w9 B9
                go_wp2_with fail
                go_ret2
                refine ⟨⟨_, ret_pair He.out, ?_⟩, bot HB0.out (bot HP8.out.bel B9)⟩
                rw [He.out]; exact SlV.nil_ _ _ _
              have hvf : decide (v1.major = v2.major ∧ v1.minor = v2.minor ∧ v1.patch = v2.patch) = true := decide_eq_true (Hve.out.1 hvr)
              have hpi : packIs xs gs q4 q3 = true := by rw [Hpi.out, decide_eq_true hnm, eqB_true hvr]; rfl
              have Hme2 : Hid (ME = if m3[q4]? = some (-1) then some (m3.set q4 q3, r3 ++ [q4]) else if m3[q4]? = some (q3 : Int) then some (m3, r3) else none) := by
                unfold Hid; rw [Hme.out, if_pos ⟨by omega, hpi⟩]
              rw [hvf] at hneq
              clear hnm hrg hvr hvf Hme Hpi hpi Hve
              generalize v1.major = z1 at *
              generalize v1.minor = z2 at *
              generalize v1.patch = z3 at *
              generalize v2.major = z4 at *
              generalize v2.minor = z5 at *
              generalize v2.patch = z6 at *
              have r_b0 := cell_regrown b0
              have r_b1 := cell_regrown b1
              have r_f0 := cell_regrown f0
              have r_f1 := cell_regrown f1
              have r_x1 := cell_regrown x1
              have r_x2 := cell_regrown x2
              have r_x3 := cell_regrown x3
              have r_x4 := cell_regrown x4
              have r_y0 := cell_regrown y0
              have r_y1 := cell_regrown y1
              have r_y2 := cell_regrown y2
              have r_y3 := cell_regrown y3
              go_wp2_with fail
              refine wp_region_qb (by kernel_rfl) (by kernel_rfl) ?_
              repeat (go_big_quiet_step (first | fail))
              refine wpQuiet_nil ?_
              intro w9 B9
              have h1 := below_cell B9 f1 hz8
              have HP9 : Hid (MapAt w0 w9 g k gs.length g3 k3 c3 m3 r3) := HP8.out.keep B9
              have hw9s := HP9.out.bel.size
              clear HP8 B9 b0 b1 f0 f1 x1 x2 x3 x4 y0 y1 y2 y3 r_b0 r_b1 r_f0 r_f1 r_x1 r_x2 r_x3 r_x4 r_y0 r_y1 r_y2 r_y3 hneq hbn
              have hc4 := HP9.out.m_.at_ q4 _ Hm4.out
              have hfz := HP9.out.m_.frozen (j := q4) hq4
              rw [Nat.zero_add] at hc4 hfz
              rw [Hm4.out] at Hme2
              clear Hm4
              generalize m3[q4] = xv at *
              by_cases hv1 : xv = -1
              · subst hv1
                have Hme3 : Hid (ME = some (m3.set q4 q3, r3 ++ [q4])) := by unfold Hid; rw [Hme2.out, if_pos rfl]
                have HR5 : Hid (∀ r, mapNext xs gs f (mapEdges xs gs a (es.drop (j + 1)) (m3.set q4 q3, r3 ++ [q4])) = r → R = (match r with | none => (none, 42) | some m => (some m, 0))) := fun r hr => Hsome.out _ Hme3.out r hr
                have Hiv := Lib.hid (HME.out _ Hme3.out)
                have HF5 : Hid (freeN (m3.set q4 q3) + (r3 ++ [q4]).length < f) := by have h5 : freeN (m3.set q4 q3) + (r3 ++ [q4]).length = freeN m3 + r3.length := Hiv.out.2; have := HF3.out; unfold Hid; omega
                have HS := Lib.hid (HP9.out.m_.set (j := q4) hq4m (q3 : Int))
                rw [Nat.zero_add] at HS
                have HQ : Hid (IRow (w9.setCell ⟨g, q4, none⟩ (.int .i64 q3)) w0.heap.size g3 k3 c3 (castN r3)) := HP9.out.r_.grown HS.out.2 (fun e => HP9.out.ne (Option.some.inj e))
                have hglt := HP9.out.m_.lt
                have hr3 : (castN r3).length = r3.length := by simp [castN]
                have hr3k : r3.length ≤ 257 := by have := HF3.out; have := Hfk.out; omega
                have Hr3 := Lib.hid hr3; clear hr3
                go_wp2_with (at_builtin; refine wpList_ipush (by rfl) _ _ _ 3 (by rfl) elt_int Tryz.underlying75 r3.length Hr3.out.symm (by rfl) (HQ.out.alloc _) ⟨w9.heap.size, 0, none⟩ 1 (q4 : Int) (by rfl) (cell_new1 _ _ _ _ (by simp)) (by rw [Hr3.out]; unfold maxLen; omega) (by rw [Hr3.out]; omega) (by simp; omega) (w9.heap.size + 1) (by simp) ?_)
                intro g5 k5 c5 w10 hrow hgrow hat
                have HPn : Hid (MapAt w0 w10 g k gs.length g5 k5 c5 (m3.set q4 q3) (r3 ++ [q4])) := by
                  refine ⟨(HS.out.1.alloc _).grown hgrow (fun e => HP9.out.ne (Option.some.inj e).symm), ?_, ?_, Hiv.out.1, ?_⟩
                  · rw [show castN (r3 ++ [q4]) = castN r3 ++ [(q4 : Int)] by simp [castN]]; exact hrow
                  · rcases hat with h | h
                    · rw [h]; exact HP9.out.ne
                    · omega
                  · exact (bal (below_setCell HP9.out.bel HP9.out.m_.lo _) _).grown hgrow (by simp; omega) (fun b hb => by rw [← Option.some.inj hb]; exact HQ.out.lo)
                clear hrow hgrow hat HS HQ Hiv
                go_wp2_with fail
                go_roundw
                case rel => exact ⟨j + 1, g5, k5, c5, _, _, by omega, by go_num, by simp, HPn, HF5, HR5⟩
                case measure => simp [intOf]; omega
              have hv1b : (xv == -1) = false := by simpa using hv1
              by_cases hv2 : xv = (q3 : Int)
              · have hv2b : (xv == (q3 : Int)) = true := by simpa using hv2
                have Hme3 : Hid (ME = some (m3, r3)) := by unfold Hid; rw [Hme2.out, if_neg (by simpa using hv1), if_pos (by rw [hv2])]
                have HR5 : Hid (∀ r, mapNext xs gs f (mapEdges xs gs a (es.drop (j + 1)) (m3, r3)) = r → R = (match r with | none => (none, 42) | some m => (some m, 0))) := fun r hr => Hsome.out _ Hme3.out r hr
                clear hv1 hv2
                go_wp2_with fail
                go_roundw
                case rel => exact ⟨j + 1, g3, k3, c3, m3, r3, by omega, by go_num, rfl, HP9, HF3, HR5⟩
                case measure => simp [intOf]; omega
              · have hv2b : (xv == (q3 : Int)) = false := by simpa using hv2
                have He : Hid (R = (none, 42)) := Hnone.out (by rw [Hme2.out, if_neg (by simpa using hv1), if_neg (by simpa using hv2)])
                clear hv1 hv2
                go_wp2_with fail
                go_ret2
                refine ⟨⟨_, ret_pair He.out, ?_⟩, bot HB0.out HP9.out.bel⟩
                rw [He.out]; exact SlV.nil_ _ _ _
end Go.Proofs.YthbnmehbhpakaaaGreatDoor
