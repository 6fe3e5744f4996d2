/-
  The program's drawing of a tree: the closure that draws a directory and all below it.
-/
import Derived.Test.YtkpbnbnfgadkcaaGreatDoorDrawA
import Derived.Deep.RegionLaw
import Derived.Deep.CutRange
set_option autoImplicit false
set_option relaxedAutoImplicit false
set_option linter.unusedVariables false
set_option linter.unusedSimpArgs false
namespace Go.Proofs.YtkpbnbnfgadkcaaGreatDoor
open Go.Rows Go.RowKit Go.Shelf Go.Sort

/-- a cell beside a row of the call's own is written -/
theorem Own.setOff {α : Type} {r : Rp α} {w : World} {base : Nat} {e : TypeId} {v : Value} {l : List α} {S : Nat → Prop} (h : Own r w base e v l S) {g o : Nat} {u : Value} (hg : g < base) (hS : ∀ b, S b → base ≤ b) : Own r (w.setCell ⟨g, o, none⟩ u) base e v l S := by
  refine h.grown (row := some g) ⟨rfl, rfl, rfl, by simp [World.setCell], fun k hk hne => Below.heap_setCell _ _ _ _ (fun e => hne (by rw [e]))⟩ ?_ (fun b hb e => ?_)
  · right
    intro e
    have := (h.lt g e).1
    omega
  · have := hS b hb
    injection e with e
    omega

/-- the drawing under way: what the closure has captured, and what is drawn so far -/
structure DrawW (W0 W : World) (tb ob bb db base : Nat) (A : Option Addr) (n c re im : Nat) (v : Value) (l : List Spot) : Prop where
  tc : W.cell? ⟨tb, 0, none⟩ = some (.slice A n c)
  bc : W.cell? ⟨bb, 0, none⟩ = some (.complex .f64 re im)
  dc : W.cell? ⟨db, 0, none⟩ = some (.func (.func 21) #[] #[.pointer (some ⟨ob, 0, none⟩), .pointer (some ⟨tb, 0, none⟩), .pointer (some ⟨bb, 0, none⟩), .pointer (some ⟨db, 0, none⟩)])
  oc : W.cell? ⟨ob, 0, none⟩ = some v
  fr : W.frozen? ⟨ob, 0, none⟩ = false
  own : ∃ S, (∀ b, S b → base ≤ b) ∧ Own rSpot W base 38 v l S
  bel : Below W0.heap.size W0 W
  size : base ≤ W.heap.size
/-- the blocks of the captured variables -/
structure Caps (W0 : World) (tb ob bb db base : Nat) : Prop where
  h1 : W0.heap.size ≤ ob
  h2 : tb < base
  h3 : ob < base
  h4 : bb < base
  h5 : db < base
  h6 : tb ≠ ob
  h7 : bb ≠ ob
  h8 : db ≠ ob
  h9 : W0.heap.size ≤ base
section
variable {W0 W W' : World} {tb ob bb db base : Nat} {A : Option Addr} {n c re im : Nat} {v : Value} {l : List Spot}
theorem DrawW.keep (h : DrawW W0 W tb ob bb db base A n c re im v l) (hC : Caps W0 tb ob bb db base) (hb : Below W.heap.size W W') : DrawW W0 W' tb ob bb db base A n c re im v l := by
  obtain ⟨S, hS, ho⟩ := h.own
  have hs := h.size
  refine ⟨below_cell hb h.tc (by have := hC.h2; omega), below_cell hb h.bc (by have := hC.h4; omega), below_cell hb h.dc (by have := hC.h5; omega), below_cell hb h.oc (by have := hC.h3; omega), ?_, ⟨S, hS, ho.keep hb⟩, bot h.bel hb, by have := hb.size; omega⟩
  exact (hb.frozen (p := ⟨ob, 0, none⟩) (by have := hC.h3; show ob < W.heap.size; omega)).trans h.fr
/-- a drawing with more drawn: the row has grown, and stands in its cell -/
theorem DrawW.put (h : DrawW W0 W tb ob bb db base A n c re im v l) (hC : Caps W0 tb ob bb db base) {v' : Value} {l' : List Spot} {S : Nat → Prop} (hS : ∀ b, S b → base ≤ b) (ho : Own rSpot W' base 38 v' l' S) (hg : W.grownBy W' v.ownBlock) :
    DrawW W0 (W'.setCell ⟨ob, 0, none⟩ v') tb ob bb db base A n c re im v' l' := by
  obtain ⟨S0, hS0, ho0⟩ := h.own
  have hs := h.size
  have hlt : ∀ b, b < base → some b ≠ v.ownBlock := fun b hb e => by have := (ho0.lt b e.symm).1; omega
  have key : ∀ b (u : Value), b < base → b ≠ ob → W.cell? ⟨b, 0, none⟩ = some u → (W'.setCell ⟨ob, 0, none⟩ v').cell? ⟨b, 0, none⟩ = some u := fun b u hb hne hc => by
    have h1 : W'.cell? ⟨b, 0, none⟩ = some u := hg.cell hc (hlt b hb)
    exact (cell_same (Below.heap_setCell _ _ _ _ hne) _ _).trans h1
  have hoc : W'.cell? ⟨ob, 0, none⟩ = some v := hg.cell h.oc (hlt ob hC.h3)
  have hfr : W'.frozen? ⟨ob, 0, none⟩ = false := by
    rw [← h.fr]
    exact frozen_same (hg.block ob (by have := hC.h3; omega) (hlt ob hC.h3)) _ _
  have hB' : Below W0.heap.size W0 W' := h.bel.grown hg h.bel.size (fun k hk => by have := (ho0.lt k hk).1; have := hC.h9; omega)
  refine ⟨key tb _ hC.h2 hC.h6 h.tc, key bb _ hC.h4 hC.h7 h.bc, key db _ hC.h5 hC.h8 h.dc, cell_set_same hoc, ?_, ⟨S, hS, ho.setOff hC.h3 hS⟩, hB'.setCell hC.h1 _, ?_⟩
  · rw [World.frozen?_setCell]; exact hfr
  · have := hg.size; simp [World.setCell]; omega
end
/-- what else a call of the closure leaves as it was -/
structure Frame (W W' : World) (ob : Nat) (v v' : Value) : Prop where
  size : W.heap.size ≤ W'.heap.size
  block : ∀ b, b < W.heap.size → b ≠ ob → v.ownBlock ≠ some b → W'.heap[b]? = W.heap[b]?
  own : ∀ k, v'.ownBlock = some k → v.ownBlock = some k ∨ W.heap.size ≤ k
theorem Frame.trans {W W' W2 : World} {ob : Nat} {v v' v2 : Value} (h : Frame W W' ob v v') (h' : Frame W' W2 ob v' v2) : Frame W W2 ob v v2 := by
  refine ⟨Nat.le_trans h.size h'.size, fun b hb hne hv => ?_, fun k hk => ?_⟩
  · rw [h'.block b (by have := h.size; omega) hne (fun e => by
      rcases h.own b e with e' | e'
      · exact hv e'
      · omega)]
    exact h.block b hb hne hv
  · rcases h'.own k hk with h1 | h1
    · exact h.own k h1
    · exact .inr (by have := h.size; omega)
theorem Frame.of_below {W W' : World} {ob : Nat} {v : Value} (h : Below W.heap.size W W') : Frame W W' ob v v := ⟨h.size, fun b hb _ _ => h.block b hb, fun k hk => .inl hk⟩
theorem Frame.put {W W' : World} {ob : Nat} {v v' : Value} (hg : W.grownBy W' v.ownBlock) (hv : v'.ownBlock = v.ownBlock ∨ ∀ k, v'.ownBlock = some k → W.heap.size ≤ k) : Frame W (W'.setCell ⟨ob, 0, none⟩ v') ob v v' := by
  refine ⟨by simp [World.setCell]; exact hg.size, fun b hb hne hvb => ?_, fun k hk => ?_⟩
  · rw [Below.heap_setCell _ _ _ _ hne]
    exact hg.block b hb (fun e => hvb e.symm)
  · rcases hv with hv | hv
    · exact .inl (by rw [← hv]; exact hk)
    · exact .inr (hv k hk)
theorem Frame.slv {α : Type} {r : Rp α} {W W' : World} {ob lo hi : Nat} {v v' : Value} {l : List α} {u : Value} (h : Frame W W' ob v v') (hs : SlV r W (fun b => lo ≤ b ∧ b < hi) l u) (h1 : hi ≤ W.heap.size) (h2 : ob < lo) (h3 : ∀ k, v.ownBlock = some k → k < lo ∨ hi ≤ k) : SlV r W' (fun b => lo ≤ b ∧ b < hi) l u :=
  hs.keep fun b hb hl => h.block b hl (by omega) (fun e => by have := h3 b e; omega)

theorem frozen_grown {W w5 w6 : World} {o : Obj} {row : Option Nat} {g : Nat} (hg : (w5.alloc o).grownBy w6 row) (hb : Below W.drew.heap.size W.drew w5) (h : W.frozen? ⟨g, 0, none⟩ = false) (hne : some g ≠ row) (hl : g < W.drew.heap.size) : w6.frozen? ⟨g, 0, none⟩ = false := by
  have h5 : g < w5.heap.size := Nat.lt_of_lt_of_le hl hb.size
  have e1 : w6.heap[g]? = (w5.alloc o).heap[g]? := hg.block g (by simp [go_sem]; omega) hne
  have e2 : (w5.alloc o).heap[g]? = w5.heap[g]? := Below.heap_alloc w5 o g h5
  have e3 : w5.heap[g]? = W.heap[g]? := hb.block g hl
  rw [← h]
  exact frozen_same (e1.trans (e2.trans e3)) _ _

theorem cell_grown {W w5 w6 : World} {o : Obj} {row : Option Nat} {g i : Nat} {u : Value} (hg : (w5.alloc o).grownBy w6 row) (hb : Below W.drew.heap.size W.drew w5) (h : W.drew.cell? ⟨g, i, none⟩ = some u) (hne : some g ≠ row) (hl : g < W.drew.heap.size) : w6.cell? ⟨g, i, none⟩ = some u :=
  hg.cell ((cell_same (Below.heap_alloc w5 o g (Nat.lt_of_lt_of_le hl hb.size)) _ _).trans (below_cell hb h hl)) hne

theorem grown_trans {W w5 w6 : World} {o : Obj} {row : Option Nat} (hb : Below W.drew.heap.size W.drew w5) (hg : (w5.alloc o).grownBy w6 row) : W.grownBy w6 row := by
  have hs : W.heap.size ≤ w5.heap.size := hb.size
  have h0 : Below W.heap.size W (w5.alloc o) := ((Below.refl _ _).drew.trans (show Below W.heap.size W.drew w5 from hb)).alloc hs o
  have hs2 : W.heap.size ≤ (w5.alloc o).heap.size := h0.size
  exact ⟨hg.os.trans h0.os, hg.tape.trans h0.tape, hg.output.trans h0.output, Nat.le_trans hs2 hg.size, fun k hk hne => (hg.block k (by omega) hne).trans (h0.block k hk)⟩
theorem hat_new {W w5 : World} {v : Value} {g n c : Nat} (hb : Below W.drew.heap.size W.drew w5) (h : v.ownBlock = some g ∨ g = w5.heap.size + 1) : (Value.slice (some ⟨g, 0, none⟩) n c).ownBlock = v.ownBlock ∨ ∀ k, (Value.slice (some ⟨g, 0, none⟩) n c).ownBlock = some k → W.heap.size ≤ k := by
  rcases h with h | h
  · exact .inl (by rw [h]; rfl)
  · refine .inr fun k hk => ?_
    have hs : W.heap.size ≤ w5.heap.size := hb.size
    simp [Value.ownBlock] at hk
    omega

theorem enters_draw1 : Enters Tryz.prog 21 := enters_of Tryz.func21 (by kernel_rfl) rfl

set_option maxHeartbeats 3200000 in
set_option maxRecDepth 100000 in
theorem draw1_any (xs : List Dir) (h : checkE xs = 0) (hlen : ∀ d ∈ xs, d.path.length * 32 ≤ 140737488355328) (hnb : xs.length ≤ 1048576)
    (W0 : World) (tb ob bb db base : Nat) (hC : Caps W0 tb ob bb db base) (A : Option Addr) (n c re im : Nat) (hx : SlV rDir W0 (fun b => b < W0.heap.size) xs (.slice A n c)) (u t : Int) (hre : Flt re u) (him : Flt im t) (hu : u.natAbs ≤ 1) (ht : t.natAbs ≤ 1) :
    ∀ (f j row zr zi : Nat) (W : World) (v : Value) (l : List Spot), DrawW W0 W tb ob bb db base A n c re im v l → j < xs.length → xs.length ≤ j + f → row + rowsF xs f j ≤ 257 → l.length + (drawF xs f j row).length ≤ 257 → Flt zr (dep xs j) → Flt zi row →
    Calls Tryz.prog 21 #[.int .i64 j, .complex .f64 zr zi, .pointer (some ⟨ob, 0, none⟩), .pointer (some ⟨tb, 0, none⟩), .pointer (some ⟨bb, 0, none⟩), .pointer (some ⟨db, 0, none⟩)] W fun e w' =>
      ∃ r i, e = .returned (.complex .f64 r i) ∧ Hid (Flt r (rowsF xs f j) ∧ Flt i 0 ∧ ∃ v', DrawW W0 w' tb ob bb db base A n c re im v' (l ++ (drawF xs f j row).map (fun e => twistF u t (spF xs e))) ∧ Frame W w' ob v v') := by
  intro f
  induction f with
  | zero => intro j row zr zi W v l hW hj hf; omega
  | succ f ih =>
    intro j row zr zi W v l hW hj hf hrow hll hzr hzi
    have hdep : dep xs j ≤ 257 := by
      have := dep_le h (j + 1) j (by omega) hj
      have := (check_len h).2
      omega
    obtain ⟨mr, mi, hm, hmr, hmi⟩ := cmul_small hzr hzi hre him (by omega) (by omega) (by omega) (by omega)
    have hmul := fun W => run_complex_mul (P := Tryz.prog) W 59 zr zi re im mr mi hm
    have hsp : Hid (twistF u t (spF xs (j, row)) = ⟨xs[j].path, (dep xs j : Int) * u - (row : Int) * t, (dep xs j : Int) * t + (row : Int) * u⟩) := by unfold Hid spF twistF; simp only [pathL_at hj]
    have e53 : (2 : Nat) ^ 53 = 9007199254740992 := by decide
    have hs1 : ((dep xs j : Int) * u - (row : Int) * t).natAbs < 2 ^ 53 := by
      have h1 : ((dep xs j : Int) * u).natAbs < 1024 := natAbs_mul_lt (A := 257) (B := 1) (by omega) hu (by omega)
      have h2 : ((row : Int) * t).natAbs < 1024 := natAbs_mul_lt (A := 257) (B := 1) (by omega) ht (by omega)
      rw [e53]; omega
    have hs2 : ((dep xs j : Int) * t + (row : Int) * u).natAbs < 2 ^ 53 := by
      have h1 : ((dep xs j : Int) * t).natAbs < 1024 := natAbs_mul_lt (A := 257) (B := 1) (by omega) ht (by omega)
      have h2 : ((row : Int) * u).natAbs < 1024 := natAbs_mul_lt (A := 257) (B := 1) (by omega) hu (by omega)
      rw [e53]; omega
    have hnx := hx.n_eq
    have HI : Hid (∀ W, Below W0.heap.size W0 W → Calls Tryz.prog 23 #[.agg #[.slice A n c], .int .i64 (j : Int)] W fun e w' => (∃ v, e = .returned v ∧ SlV rInt w' (fun b => W.heap.size ≤ b) (castL (insideI xs (j : Int))) v) ∧ Below W.heap.size W w') := fun W hW => inside_any _ _ _ xs (j : Int) W _ (hx.belowSize hW) hlen hnb
    have Hbd : Hid (∀ k (hk : k < (insideL xs j).length), row + (sumR (rowsF xs f) ((insideL xs j).take k) + rowsF xs f (insideL xs j)[k]) ≤ 257) := fun k hk => by
      have h1 := sumR_take_lt (r := rowsF xs f) hk
      rw [rowsF, if_neg (fun e => by rw [e] at hk; simp at hk)] at hrow
      omega
    have Hle : Hid (∀ k (hk : k < (insideL xs j).length), l.length + 1 + (foldD (drawF xs f) (rowsF xs f) ((insideL xs j).take k) row).length + (drawF xs f (insideL xs j)[k] (row + sumR (rowsF xs f) ((insideL xs j).take k))).length ≤ 257) := fun k hk => by
      have h2 : (foldD (drawF xs f) (rowsF xs f) ((insideL xs j).take (k + 1)) row).length + (foldD (drawF xs f) (rowsF xs f) ((insideL xs j).drop (k + 1)) (row + sumR (rowsF xs f) ((insideL xs j).take (k + 1)))).length = (foldD (drawF xs f) (rowsF xs f) (insideL xs j) row).length := by
        rw [← List.length_append, ← foldD_append, List.take_append_drop]
      rw [foldD_snoc _ _ hk, List.length_append] at h2
      rw [drawF, List.length_cons] at hll
      omega
    have HD : Hid (∀ (k : Nat) (hk : k < (insideL xs j).length) (W : World) (v : Value) (zr zi : Nat), DrawW W0 W tb ob bb db base A n c re im v (l ++ (twistF u t (spF xs (j, row)) :: (foldD (drawF xs f) (rowsF xs f) ((insideL xs j).take k) row).map (fun e => twistF u t (spF xs e)))) → Flt zr ((dep xs j : Int) + 1) → Flt zi ((row : Int) + (sumR (rowsF xs f) ((insideL xs j).take k) : Nat)) →
        Calls Tryz.prog 21 #[.int .i64 ((insideL xs j)[k] : Int), .complex .f64 zr zi, .pointer (some ⟨ob, 0, none⟩), .pointer (some ⟨tb, 0, none⟩), .pointer (some ⟨bb, 0, none⟩), .pointer (some ⟨db, 0, none⟩)] W fun e w' =>
          ∃ r i, e = .returned (.complex .f64 r i) ∧ Hid (Flt r (rowsF xs f (insideL xs j)[k]) ∧ Flt i 0 ∧ ∃ v', DrawW W0 w' tb ob bb db base A n c re im v' (l ++ (twistF u t (spF xs (j, row)) :: (foldD (drawF xs f) (rowsF xs f) ((insideL xs j).take (k + 1)) row).map (fun e => twistF u t (spF xs e)))) ∧ Frame W w' ob v v')) := fun k hk W v zr zi hW h1 h2 => by
      obtain ⟨hk', hjk, hl1, _⟩ := inside_path h hj (List.getElem_mem hk)
      have hb := Hbd.out k hk
      have hl2 := Hle.out k hk
      have hd : dep xs (insideL xs j)[k] = dep xs j + 1 := by rw [dep_at hk', dep_at hj, hl1]
      have := ih (insideL xs j)[k] (row + sumR (rowsF xs f) ((insideL xs j).take k)) zr zi W v _ hW hk' (by omega) (by omega) (by
        rw [List.length_append, List.length_cons, List.length_map]; omega) (by rw [hd]; exact h1) (by rw [Int.natCast_add]; exact h2)
      refine this.mono ?_
      rintro e w' ⟨r, i, rfl, g⟩
      refine ⟨r, i, rfl, ?_⟩
      have g := g.out
      rw [List.append_assoc, List.cons_append, ← List.map_append, ← foldD_snoc _ _ hk] at g
      exact g
    have Hsn : Hid (∀ k (hk : k < (insideL xs j).length), sumR (rowsF xs f) ((insideL xs j).take (k + 1)) = sumR (rowsF xs f) ((insideL xs j).take k) + rowsF xs f (insideL xs j)[k]) := fun k hk => sumR_snoc _ hk
    have Hfin : Hid ((drawF xs (f + 1) j row).map (fun e => twistF u t (spF xs e)) = twistF u t (spF xs (j, row)) :: (foldD (drawF xs f) (rowsF xs f) (insideL xs j) row).map (fun e => twistF u t (spF xs e))) := by unfold Hid; rw [drawF, List.map_cons]
    have Hres : Hid (rowsF xs (f + 1) j = if insideL xs j = [] then 1 else sumR (rowsF xs f) (insideL xs j)) := by unfold Hid; rw [rowsF]
    have hl257 : l.length ≤ 257 := by omega
    rw [Hfin.out, Hres.out]
    clear Hfin ih hrow hll Hle Hres
    rw [insideI_nat] at HI
    generalize insideL xs j = L at *
    obtain ⟨RR, hRR⟩ : ∃ RR : Nat, RR = (if L = [] then 1 else sumR (rowsF xs f) L) := ⟨_, rfl⟩
    rw [← hRR]
    have HRR := Lib.hid hRR
    clear hRR
    obtain ⟨ln, hln⟩ : ∃ ln, ln = L.length := ⟨_, rfl⟩
    have Hln := Lib.hid hln
    clear hln
    have hxW := hx.belowSize hW.bel
    obtain ⟨b, o, cs, hAe, hSb, hb1, hh, hcell⟩ := hxW.elem (List.getElem?_eq_getElem hj)
    obtain ⟨s0, s1, s2, s3, rfl, hpp, _, _, _, _, _, _, _, _⟩ := hh
    obtain ⟨pA, pc, rfl, _, _⟩ := hpp.val
    have c1 := hcell 0 _ rfl
    simp only [rDir, Nat.add_zero] at c1
    subst hAe
    have Hpp := Lib.hid hpp
    have hjn : (j : Int) < (n : Int) := by omega
    have hj0 : (0 : Int) ≤ (j : Int) := by omega
    clear hcell hpp hx hnx hxW
    have hpr : xs[j].path.length * 16 ≤ 140737488351232 := by rw [← dep_at hj]; omega
    have a0 := hW.oc
    have a1 := hW.tc
    have a2 := hW.bc
    have f0 := hW.fr
    have Hs1 := Lib.hid hs1; clear hs1
    have Hs2 := Lib.hid hs2; clear hs2
    have Hmr := Lib.hid hmr; clear hmr
    have Hmi := Lib.hid hmi; clear hmi
    have HW := Lib.hid hW; clear hW
    have Hzr := Lib.hid hzr; clear hzr
    have Hzi := Lib.hid hzi; clear hzi
    have Hre := Lib.hid hre; clear hre
    have Him := Lib.hid him; clear him
    have hSpot : Hid (∀ W', Below W.heap.size W W' → Calls Tryz.prog 22 #[.slice pA xs[j].path.length pc, .complex .f64 mr mi] W' fun e w' => ∃ q, e = .returned (.agg #[q, .int .i64 ((dep xs j : Int) * u - (row : Int) * t), .int .i64 ((dep xs j : Int) * t + (row : Int) * u)]) ∧ SlV rStr w' (fun b => W'.heap.size ≤ b) xs[j].path q ∧ Below W'.heap.size W' w') := fun W' hW' =>
      spot_any _ _ _ _ _ _ _ _ W' _ hpr (Hpp.out.belowSize hW') Hmr.out Hmi.out Hs1.out Hs2.out
    clear hm hpr
    obtain ⟨pn, hpn⟩ : ∃ pn, pn = xs[j].path.length := ⟨_, rfl⟩
    rw [← hpn] at c1 hSpot
    clear hpn
    have Hpn := Hpp; clear Hpp
    generalize hX : (dep xs j : Int) * u - (row : Int) * t = X at *
    generalize hY : (dep xs j : Int) * t + (row : Int) * u = Y at *
    clear hX hY
    go_enter Tryz.func21, Tryz.ntmps21
    go_wp2_with fail
    obtain ⟨S1, hS1, ho1⟩ := HW.out.own
    have HS1 := Lib.hid hS1; clear hS1
    have Ho1 := Lib.hid ho1
    have hlo := ho1.lt
    have hbs := HW.out.size
    have Hlo := Lib.hid hlo
    have hob : ob < W.drew.heap.size := cell_lt a0
    have htb : tb < W.drew.heap.size := cell_lt a1
    have hbb : bb < W.drew.heap.size := cell_lt a2
    have hb1' : b < W.drew.heap.size := hb1
    have hf0 : some ob ≠ v.ownBlock := fun e => by have := hlo _ e.symm; have := hC.h3; omega
    have hf1 : some tb ≠ v.ownBlock := fun e => by have := hlo _ e.symm; have := hC.h2; omega
    have hf2 : some bb ≠ v.ownBlock := fun e => by have := hlo _ e.symm; have := hC.h4; omega
    have hf3 : some b ≠ v.ownBlock := fun e => by have := hlo _ e.symm; have := hC.h9; omega
    have Hf0 := Lib.hid hf0; clear hf0
    have Hf1 := Lib.hid hf1; clear hf1
    have Hf2 := Lib.hid hf2; clear hf2
    have Hf3 := Lib.hid hf3; clear hf3
    clear hlo ho1
    have d0 : W.drew.cell? ⟨ob, 0, none⟩ = some v := a0
    have d1 : W.drew.cell? ⟨tb, 0, none⟩ = some (.slice (some ⟨b, o, none⟩) n c) := a1
    have d2 : W.drew.cell? ⟨bb, 0, none⟩ = some (.complex .f64 re im) := a2
    have d3 : W.drew.cell? ⟨b, o + j * 9, none⟩ = some (.slice pA pn pc) := c1
    have ne1 : tb ≠ ob := hC.h6
    have ne2 : bb ≠ ob := hC.h7
    have ne3 : b ≠ ob := fun e => by have := hC.h1; omega
    go_cut [] from 13 to 25 (fun wx => Hid (∃ v', DrawW W0 wx tb ob bb db base (some ⟨b, o, none⟩) n c re im v' (l ++ [⟨xs[j].path, X, Y⟩]) ∧ Frame W wx ob v v'))
    case first =>
      go_region_law
       (first
        | (refine step_push (by rfl) _ _ _ (by rfl) elt_spot Tryz.underlying25 (by rfl) (HO.out.alloc _) ⟨w5.heap.size, 0, none⟩ 1 [.slice qA _ qc, .int .i64 X, .int .i64 Y] ⟨xs[j].path, X, Y⟩ (by rfl) (Rp.alloc HE.out _)
              (news_of w5 #[.slice qA _ qc, .int .i64 X, .int .i64 Y] _) (by simp [maxLen]; omega) (by omega) (by simp; exact Nat.le_succ_of_le (Nat.le_trans hbs hb5.size)) (w5.heap.size + 1) (by simp) ?_; intro g6 cap6 w6 hown6 hgrow hat hg6; have hc6 := cell_grown hgrow hb5 d0 Hf0.out hob; have hf6 : w6.frozen? ⟨ob, 0, none⟩ = false := frozen_grown hgrow hb5 f0 Hf0.out hob)
        | (go_simp; go_at_call 22; refine (hSpot.out W.drew (Below.refl _ _).drew).mono ?_; rintro e w5 ⟨q, rfl, hq, hb5⟩; obtain ⟨qA, qc, rfl, _, _⟩ := hq.val; have d5 := below_cell hb5 d0 hob; have e5 := fun o => (cell_same (Below.heap_alloc w5 o ob (cell_lt d5)) 0 none).trans d5; have n5 : ob ≠ w5.heap.size := Nat.ne_of_lt (cell_lt d5); have n5' : w5.heap.size ≠ ob := fun e => n5 e.symm; have HE := elem_spot hq (S' := S1) Hs1.out Hs2.out; have HO := own_spot (w1 := W.drew) Ho1.out (Below.refl _ _) hb5; clear hq))
      all_goals
        go_wp2_with fail
        go_meet
        exact ⟨_, HW.out.put hC (S := fun b => S1 b ∨ (W.heap.size ≤ b ∧ b < w5.heap.size)) (fun b hb => by
          rcases hb with hb | hb
          · exact HS1.out b hb
          · omega) hown6 (grown_trans hb5 hgrow), Frame.put (grown_trans hb5 hgrow) (hat_new hb5 hat)⟩
    case rest =>
      clear hSpot Hs1 Hs2 Hmr Hmi hmul Hpn a0 a1 a2 f0 d0 d1 d2 d3 c1 HS1 Ho1 Hlo hob htb hbb hb1' Hf0 Hf1 Hf2 Hf3 hbs
      obtain ⟨v1, hW1, hF1⟩ := hcut.out
      have hsp2 := hsp.out
      rw [← hsp2] at hW1
      clear hsp2 hsp hcut
      have a1 := hW1.tc
      have hb1w := hW1.bel
      have hoc : ob < wc.heap.size := by have := hC.h3; have := hW1.size; omega
      have hlo1 : ∀ g, v1.ownBlock = some g → g < wc.heap.size := fun g hg => by
        obtain ⟨S2, _, ho2⟩ := hW1.own
        exact (ho2.lt g hg).2
      have HW1 := Lib.hid hW1; clear hW1
      have HF1 := Lib.hid hF1; clear hF1
      have Hlo1 := Lib.hid hlo1; clear hlo1
      have Hb1w := Lib.hid hb1w; clear hb1w
      go_wp2_with fail
      refine (HI.out wc Hb1w.out).mono ?_
      rintro e w2 ⟨⟨vi, rfl, hv⟩, B2⟩
      obtain ⟨vA, vc, hve, hvl, hvm⟩ := hv.val
      have hcl : (castL L).length = L.length := by unfold castL; rw [List.length_map]
      have HV : Hid (SlV rInt w2 (fun b => wc.heap.size ≤ b ∧ b < w2.heap.size) (castL L) vi) := hv.more fun b hb hlt => ⟨hb, hlt⟩
      clear hv HI a1
      rw [hcl, ← Hln.out] at hve hvl
      unfold maxLen at hvm
      rw [hve] at HV
      subst hve
      clear hcl
      have hsz2 := B2.size
      have HW2 : Hid (∃ v', DrawW W0 w2 tb ob bb db base (some ⟨b, o, none⟩) n c re im v' (l ++ (twistF u t (spF xs (j, row)) :: (foldD (drawF xs f) (rowsF xs f) (L.take 0) row).map (fun e => twistF u t (spF xs e)))) ∧ Frame W w2 ob v v' ∧ ∀ g, v'.ownBlock = some g → g < wc.heap.size ∨ w2.heap.size ≤ g) :=
        ⟨v1, HW1.out.keep hC B2, HF1.out.trans (Frame.of_below B2), fun g hg => .inl (Hlo1.out g hg)⟩
      clear HW1 HF1 Hlo1 B2
      go_wp2_with fail
      go_loopw [10, 31] (fun rv i wr => ∃ k : Nat, k ≤ ln ∧ i = .int .i64 k ∧ (∃ a b, rv = .complex .f64 a b ∧ Hid (Flt a (sumR (rowsF xs f) (L.take k) : Nat) ∧ Flt b 0)) ∧
          Hid (∃ v', DrawW W0 wr tb ob bb db base (some ⟨b, o, none⟩) n c re im v' (l ++ (twistF u t (spF xs (j, row)) :: (foldD (drawF xs f) (rowsF xs f) (L.take k) row).map (fun e => twistF u t (spF xs e)))) ∧ Frame W wr ob v v' ∧ ∀ g, v'.ownBlock = some g → g < wc.heap.size ∨ w2.heap.size ≤ g) ∧
          Hid (w2.heap.size ≤ wr.heap.size) ∧ Hid (SlV rInt wr (fun b => wc.heap.size ≤ b ∧ b < w2.heap.size) (castL L) (.slice vA ln vc))) (fun _ i _ => ln - (intOf i).toNat)
      case atStart => exact ⟨0, Nat.zero_le _, rfl, ⟨0, 0, rfl, flt_zero, flt_zero⟩, HW2, Nat.le_refl _, HV⟩
      case round =>
        clear HW2 HV
        obtain ⟨k, hk, rfl, ⟨ra, rb, rfl, Hfl⟩, HWr, Hsz, HV⟩ := hrel
        by_cases hlt : k < ln
        case neg =>
          have hke : k = ln := by omega
          have hlt' : ¬ (k : Int) < (ln : Int) := by omega
          have htk : L.take k = L := by rw [hke, Hln.out, List.take_length]
          rw [htk] at HWr Hfl
          clear htk hke
          have HWf : Hid (∃ v', DrawW W0 wr tb ob bb db base (some ⟨b, o, none⟩) n c re im v' (l ++ (twistF u t (spF xs (j, row)) :: (foldD (drawF xs f) (rowsF xs f) L row).map (fun e => twistF u t (spF xs e)))) ∧ Frame W wr ob v v') := by
            obtain ⟨v', g1, g2, _⟩ := HWr.out
            exact ⟨v', g1, g2⟩
          clear HWr
          by_cases hl0 : L = []
          · have hl : ln = 0 := by rw [Hln.out, hl0]; rfl
            subst hl
            have Hl0 := Lib.hid hl0; clear hl0
            go_wp2_with fail
            go_ret
            exact ⟨_, _, rfl, by rw [HRR.out, if_pos Hl0.out]; exact flt_one, flt_zero, HWf.out⟩
          · have hl : ((ln : Int) == 0) = false := by
              have := List.length_pos_iff.2 hl0
              have := Hln.out
              simp; omega
            have Hl0 := Lib.hid hl0; clear hl0
            go_wp2_with fail
            go_ret
            exact ⟨_, _, rfl, by rw [HRR.out, if_neg Hl0.out]; exact Hfl.out.1, Hfl.out.2, HWf.out⟩
        have hkL : k < L.length := by have := Hln.out; omega
        have hkI : (k : Int) < (ln : Int) := by omega
        have hk0 : (0 : Int) ≤ (k : Int) := by omega
        have hbd := Hbd.out k hkL
        have Hsn2 := Lib.hid (Hsn.out k hkL)
        obtain ⟨yb, yo, ycs, hAe, hyb, hyl, ⟨rfl, _⟩, hyc⟩ := HV.out.elem (castL_get (List.getElem?_eq_getElem hkL))
        subst hAe
        have y0 := hyc 0 _ rfl
        simp only [rInt, Nat.add_zero, Nat.mul_one] at y0
        clear hyc
        obtain ⟨v3, hW3, hF3, hO3⟩ := HWr.out
        have dc3 := hW3.dc
        have HD1 := Lib.hid (fun zr zi h1 h2 => HD.out k hkL wr v3 zr zi hW3 h1 h2)
        have HF3 := Lib.hid hF3
        have HO3 := Lib.hid hO3
        clear hW3 hF3 hO3 HWr
        generalize rowsF xs f L[k] = r at *
        generalize hs1 : sumR (rowsF xs f) (L.take k) = s1 at *
        have Hs1 := Lib.hid hs1; clear hs1
        generalize L[k] = y at *
        have e53 : (2 : Nat) ^ 53 = 9007199254740992 := by decide
        obtain ⟨z1r, z1i, hz1, g1, g2⟩ := cadd_flt Hzr.out Hzi.out flt_one flt_zero (by rw [e53]; omega) (by rw [e53]; omega)
        obtain ⟨m1r, m1i, hm1, g3, g4⟩ := cmul_small Hfl.out.1 Hfl.out.2 flt_zero flt_one (by omega) (by decide) (by decide) (by decide)
        obtain ⟨z2r, z2i, hz2, g5, g6⟩ := cadd_flt g1 g2 g3 g4 (by rw [e53]; omega) (by rw [e53]; omega)
        have ha1 := fun W => run_complex_sum (P := Tryz.prog) W .add (.inl rfl) 59 .f64 zr zi _ _ z1r z1i hz1
        have ha2 := fun W => run_complex_mul (P := Tryz.prog) W 59 ra rb 0 4607182418800017408 m1r m1i hm1
        have ha3 := fun W => run_complex_sum (P := Tryz.prog) W .add (.inl rfl) 59 .f64 z1r z1i m1r m1i z2r z2i hz2
        have g5' : Flt z2r ((dep xs j : Int) + 1) := by
          rw [show ((dep xs j : Int) + 1) = (dep xs j : Int) + 1 + ((s1 : Int) * 0 - 0 * 1) from by omega]; exact g5
        have g6' : Flt z2i ((row : Int) + (s1 : Nat)) := by
          rw [show ((row : Int) + (s1 : Nat)) = (row : Int) + 0 + ((s1 : Int) * 1 + 0 * 0) from by omega]; exact g6
        have Hc := Lib.hid (HD1.out z2r z2i g5' g6')
        clear hz1 hm1 hz2 g1 g2 g3 g4 g5 g6 g5' g6' HD1
        have hE := fun args => enters_draw1 args wr
        go_wp2_with fail
        refine Hc.out.mono ?_
        rintro e w4 ⟨r4, i4, rfl, Hr4⟩
        obtain ⟨z3r, z3i, hz3, g7, g8⟩ := cadd_flt Hfl.out.1 Hfl.out.2 Hr4.out.1 Hr4.out.2.1 (by rw [show (2 : Nat) ^ 53 = 9007199254740992 from by decide]; omega) (by rw [show (2 : Nat) ^ 53 = 9007199254740992 from by decide]; omega)
        have ha4 := fun W => run_complex_sum (P := Tryz.prog) W .add (.inl rfl) 59 .f64 ra rb r4 i4 z3r z3i hz3
        have HW4 : Hid (∃ v', DrawW W0 w4 tb ob bb db base (some ⟨b, o, none⟩) n c re im v' (l ++ (twistF u t (spF xs (j, row)) :: (foldD (drawF xs f) (rowsF xs f) (L.take (k + 1)) row).map (fun e => twistF u t (spF xs e)))) ∧ Frame W w4 ob v v' ∧ ∀ g, v'.ownBlock = some g → g < wc.heap.size ∨ w2.heap.size ≤ g) := by
          obtain ⟨_, _, v', q1, q2⟩ := Hr4.out
          refine ⟨v', q1, HF3.out.trans q2, fun g hg => ?_⟩
          rcases q2.own g hg with q3 | q3
          · exact HO3.out g q3
          · exact .inr (by have := Hsz.out; omega)
        have Hsz4 : Hid (w2.heap.size ≤ w4.heap.size) := by
          obtain ⟨_, _, v', q1, q2⟩ := Hr4.out
          exact Nat.le_trans Hsz.out q2.size
        have HV4 : Hid (SlV rInt w4 (fun b => wc.heap.size ≤ b ∧ b < w2.heap.size) (castL L) (.slice (some ⟨yb, yo, none⟩) ln vc)) := by
          obtain ⟨_, _, v', q1, q2⟩ := Hr4.out
          exact q2.slv HV.out Hsz.out hoc HO3.out
        have Hf4 : Hid (Flt z3r ((s1 : Int) + (r : Int)) ∧ Flt z3i 0) := ⟨g7, g8⟩
        clear hz3 g7 g8 Hr4 y0 dc3 HV Hc ha1 ha2 ha3 HF3 HO3 Hsz hE
        go_wp2_with fail
        go_roundw
        case rel => exact ⟨k + 1, by omega, by go_num, ⟨z3r, z3i, rfl, by rw [Hsn2.out]; exact Hf4.out⟩, HW4, Hsz4, HV4⟩
        case measure => simp [intOf]; omega
end Go.Proofs.YtkpbnbnfgadkcaaGreatDoor
