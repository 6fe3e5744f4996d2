/-
  A spot made of a path and a point; a drawing with each point changed.
-/
import Derived.Test.YtkpbnbnfgadkcaaDoorChartC
import Derived.Lib.SliceRun
namespace Go.Proofs.YtkpbnbnfgadkcaaDoor
open Go.RowKit
set_option linter.unusedVariables false
set_option linter.unusedSimpArgs false

theorem elt_str : Elt Tryd.prog 9 1 16 := Elt.mk' (z := .string ByteArray.empty) (by kernel_rfl) rfl (by decide)

theorem cloneStr_any (A : Option Addr) (n c : Nat) (l : List ByteArray) (w : World) (S : Nat → Prop) (hreach : l.length * 16 ≤ 140737488351232) (hl : SlV rStr w S l (.slice A n c)) :
    Calls Tryd.prog 58 #[.slice A n c] w fun e w' => ∃ v, e = .returned v ∧ SlV rStr w' (fun b => w.heap.size ≤ b) l v ∧ Below w.heap.size w w' := by
  have he := fun W => Lib.run_eql_slice_nil (P := Tryd.prog) W 42 9 A n c 0 0 Tryd.underlying42
  rcases A with _ | ad
  · obtain ⟨rfl, rfl⟩ := hl.none_
    have hn0 : n = 0 := hl.n_eq
    subst hn0
    simp only [Option.isNone_none] at he
    go_enter Tryd.func58, Tryd.ntmps58
    go_wp2
    go_ret
    exact ⟨_, rfl, SlV.nil_ _ _ _, Below.refl _ _⟩
  · simp only [Option.isNone_some] at he
    go_enter Tryd.func58, Tryd.ntmps58
    have hnx := hl.n_eq
    have Hnx := Lib.hid hnx; clear hnx
    go_wp2_with (at_builtin; (refine wpList_extend (by rfl) _ _ _ (by rfl) elt_str Tryd.underlying42 (by rfl) (Own.empty rStr w w.heap.size 9 (Nat.le_refl _)) (fun b => S b ∧ b < w.heap.size) l _ _ _ (by rfl) ((hl.more fun b h1 h2 => ⟨h1, h2⟩).alloc _) ?_ ?_ ?_ ?_ ?_); rotate_right; (intro v1 w1 hown1 hgrow hat))
    rotate_left
    · intro b hb he
      simp [Value.ownBlock] at he
      omega
    · simp [maxLen]; omega
    · simp; omega
    · simp
    go_ret
    refine ⟨_, rfl, ?_, ((Below.refl _ _).alloc (Nat.le_refl _) _).grown hgrow (by simp) (fun k hk => by simp [Value.ownBlock] at hk; omega)⟩
    have h1 := hown1.slv
    obtain ⟨A', c', g1, g2, g3, g4, g5⟩ := h1
    refine ⟨A', c', g1, g2, g3, g4, fun hn => ?_⟩
    obtain ⟨b, o, hA, hS, hb, hr⟩ := g5 hn
    subst hA
    have hv : v1.ownBlock = some b := by simp only [List.cons.injEq, and_true] at g1; rw [g1]; rfl
    have hbb := (hown1.lt b hv).1
    exact ⟨b, o, rfl, hbb, hb, fun i x hx => by
      obtain ⟨cs, ⟨h3, h4⟩, h5⟩ := hr i x hx
      exact ⟨cs, ⟨h3, h4⟩, h5⟩⟩

theorem spot_any (A : Option Addr) (n c re im : Nat) (l : List ByteArray) (x y : Int) (w : World) (S : Nat → Prop) (hreach : l.length * 16 ≤ 140737488351232) (hl : SlV rStr w S l (.slice A n c))
    (hx : Flt re x) (hy : Flt im y) (hx' : x.natAbs < 2 ^ 53) (hy' : y.natAbs < 2 ^ 53) :
    Calls Tryd.prog 49 #[.slice A n c, .complex .f64 re im] w fun e w' => ∃ q, e = .returned (.agg #[q, .int .i64 x, .int .i64 y]) ∧ SlV rStr w' (fun b => w.heap.size ≤ b) l q ∧ Below w.heap.size w w' := by
  have hcx := fun W => run_convert_float_int (P := Tryd.prog) W 48 3 .f64 .i64 re x (by kernel_rfl) Tryd.underlying3 (flt_floatToInt hx hx')
  have hcy := fun W => run_convert_float_int (P := Tryd.prog) W 48 3 .f64 .i64 im y (by kernel_rfl) Tryd.underlying3 (flt_floatToInt hy hy')
  have Hc := Lib.hid (fun o => cloneStr_any A n c l (w.alloc o) S hreach (hl.alloc o))
  clear hl
  go_enter Tryd.func49, Tryd.ntmps49
  go_wp2_with fail
  refine (Hc.out _).mono ?_
  rintro e w1 ⟨v, rfl, hq, hb⟩
  obtain ⟨qA, qc, rfl, _, _⟩ := hq.val
  have hc0 := hb.cell (p := ⟨w.heap.size, 0, none⟩) (by simp)
  have hc1 := hb.cell (p := ⟨w.heap.size, 1, none⟩) (by simp)
  have hc2 := hb.cell (p := ⟨w.heap.size, 2, none⟩) (by simp)
  have hf0 := hb.frozen (p := ⟨w.heap.size, 0, none⟩) (by simp)
  have hf1 := hb.frozen (p := ⟨w.heap.size, 1, none⟩) (by simp)
  have hf2 := hb.frozen (p := ⟨w.heap.size, 2, none⟩) (by simp)
  simp [go_sem] at hc0 hc1 hc2 hf0 hf1 hf2
  have hz := hb.size
  simp at hz
  generalize l.length = ln at *
  go_wp2
  refine bodyPost_ret (v := .agg #[.slice qA ln qc, .int .i64 x, .int .i64 y]) (by simp [results, Tryd.results49, go_sem, hc0, hc1, hc2]) rfl ⟨_, rfl, ?_, ?_⟩
  · have hq1 : SlV rStr w1 (fun b => w.heap.size + 1 ≤ b) l (.slice qA ln qc) := hq.more (fun b h _ => by simpa using h)
    refine (hq1.keep (fun b h _ => ?_)).more (fun b h _ => Nat.le_of_succ_le h)
    have h' : w.heap.size + 1 ≤ b := h
    rw [Below.heap_setCell _ _ _ _ (by show b ≠ w.heap.size; omega), Below.heap_setCell _ _ _ _ (by show b ≠ w.heap.size; omega), Below.heap_setCell _ _ _ _ (by show b ≠ w.heap.size; omega)]
  · have h1 : Below w.heap.size w w1 := ((Below.refl _ _).alloc (Nat.le_refl _) _).trans (hb.mono (by simp))
    exact ((h1.setCell (by simp) _).setCell (by simp) _).setCell (by simp) _

theorem i64_of_53 {x : Int} (h : x.natAbs < 2 ^ 53) : I64 x := by
  rw [show (2 : Nat) ^ 53 = 9007199254740992 from by decide] at h
  unfold I64; omega
theorem elem_spot {w1 w3 : World} {path : List ByteArray} {q : Value} {x y : Int} {S' : Nat → Prop} (hq : SlV rStr w3 (fun b => w1.heap.size ≤ b) path q) (hx : x.natAbs < 2 ^ 53) (hy : y.natAbs < 2 ^ 53) :
    Hid (rSpot.holds w3 (fun b => S' b ∨ (w1.heap.size ≤ b ∧ b < w3.heap.size)) ⟨path, x, y⟩ [q, .int .i64 x, .int .i64 y]) :=
  ⟨q, rfl, hq.more fun b h1 h2 => .inr ⟨h1, h2⟩, i64_of_53 hx, i64_of_53 hy⟩
theorem own_spot {α : Type} {r : Rp α} {wv w1 w3 : World} {base : Nat} {e : TypeId} {v : Value} {l : List α} {S' : Nat → Prop} (h : Own r wv base e v l S') (hb1 : Below wv.drew.heap.size wv.drew w1) (hb3 : Below w1.heap.size w1 w3) :
    Hid (Own r w3 base e v l (fun b => S' b ∨ (w1.heap.size ≤ b ∧ b < w3.heap.size))) :=
  ((h.drew.keep hb1).keep hb3).moreNew fun k hk => ((h.drew.keep hb1).lt k hk).2

set_option maxHeartbeats 400000 in
/-- each: a drawing with each point changed by F -/
theorem each_any (g : FuncId) (lb : Array Value) (F : Int → Int → Int × Int) (A : Option Addr) (n c : Nat) (l : List Spot) (w : World) (S : Nat → Prop) (hreach : l.length * 40 ≤ 140737488351232)
    (hpath : ∀ s ∈ l, s.path.length * 16 ≤ 140737488351232)
    (hl : SlV rSpot w S l (.slice A n c)) (hF : OnPoints w g lb F) (hg : Enters Tryd.prog g)
    (hfar : ∀ s ∈ l, s.x.natAbs ≤ 1099511627776 ∧ s.y.natAbs ≤ 1099511627776 ∧ (F s.x s.y).1.natAbs < 2 ^ 53 ∧ (F s.x s.y).2.natAbs < 2 ^ 53) :
    Calls Tryd.prog 35 #[.slice A n c, .func (.func g) #[] lb] w fun e w' => ∃ v, e = .returned v ∧ SlV rSpot w' (fun b => w.heap.size ≤ b) (l.map fun s => ⟨s.path, (F s.x s.y).1, (F s.x s.y).2⟩) v ∧ Below w.heap.size w w' := by
  have hnx := hl.n_eq
  have hn63 : n ≤ 9223372036854775807 := by omega
  have hl' := hl.more (S' := fun b => S b ∧ b < w.heap.size) fun b hb hlt => ⟨hb, hlt⟩
  have Hnx := Lib.hid hnx; clear hnx
  have HF := Lib.hid hF; clear hF
  have Hfar := Lib.hid hfar; clear hfar
  have Hpath := Lib.hid hpath; clear hpath
  go_enter Tryd.func35, Tryd.ntmps35
  go_wp2
  go_loopw [5, 10] (fun v i wr => ∃ k : Nat, k ≤ n ∧ i = .int .i64 k ∧ Hid (∃ S', (∀ b, S' b → w.heap.size ≤ b) ∧ Own rSpot wr w.heap.size 44 v ((l.take k).map fun s => (⟨s.path, (F s.x s.y).1, (F s.x s.y).2⟩ : Spot)) S') ∧ Below w.heap.size w wr) (fun _ i _ => n - (intOf i).toNat)
  case atStart => exact ⟨0, Nat.zero_le _, rfl, ⟨fun _ => False, fun b h => h.elim, Own.nil_ _ _ _ _ (fun b hb => hb.elim)⟩, Below.refl _ _⟩
  case round =>
    obtain ⟨k, hk, rfl, hown, hbel⟩ := hrel
    by_cases hlt : k < n
    · have hkx : k < l.length := by have := Hnx.out; omega
      have hlw := hl'.below hbel (fun b hb => hb.2)
      obtain ⟨b, o, cs, rfl, hSb, hb1, hsp, hcell⟩ := hlw.elem (List.getElem?_eq_getElem hkx)
      obtain ⟨p, rfl, hp, hx, hy⟩ := hsp
      obtain ⟨pA, pc, rfl, _, _⟩ := hp.val
      have hc0 := hcell 0 _ rfl
      have hc1 := hcell 1 _ rfl
      have hc2 := hcell 2 _ rfl
      simp only [rSpot, Nat.add_zero] at hc0 hc1 hc2
      have hkn : (k : Int) < (n : Int) := by omega
      obtain ⟨hf1, hf2, hf3, hf4⟩ := Hfar.out l[k] (List.getElem_mem hkx)
      have hpr := Hpath.out l[k] (List.getElem_mem hkx)
      have e53 : (2 : Nat) ^ 53 = 9007199254740992 := by decide
      have hox := flt_ofInt (n := l[k].x) (by rw [e53]; omega)
      have hoy := flt_ofInt (n := l[k].y) (by rw [e53]; omega)
      have HC := Lib.hid (fun (W : World) (hbW : Below w.heap.size w W) => HF.out W _ _ _ _ hbW hox hoy hf1 hf2)
      clear hox hoy
      have htk := List.take_succ_eq_append_getElem hkx
      have Htk := Lib.hid htk; clear htk
      have hpl := hp.more (S' := fun b => b < wr.heap.size) (fun b _ h => h)
      have Hpl := Lib.hid hpl; clear hpl
      have Hf3 := Lib.hid hf3; clear hf3
      have Hf4 := Lib.hid hf4; clear hf4
      obtain ⟨S', hS', hown⟩ := hown.out
      have hlen : ((l.take k).map fun s => (⟨s.path, (F s.x s.y).1, (F s.x s.y).2⟩ : Spot)).length = k := by simp; omega
      have Hlen := Lib.hid hlen; clear hlen
      generalize hdone : ((l.take k).map fun s => (⟨s.path, (F s.x s.y).1, (F s.x s.y).2⟩ : Spot)) = done at *
      have Hdone := Lib.hid hdone; clear hdone
      generalize l[k] = s at *
      obtain ⟨path, x, y⟩ := s
      simp only at hc0 hc1 hc2 Hpl hpr HC Hf3 Hf4
      clear hp hx hy hcell hlw hf1 hf2
      generalize hpn : path.length = pn at *
      have Hpn := Lib.hid hpn; clear hpn
      generalize hfx : floatOfInt .f64 x = fx at *
      generalize hfy : floatOfInt .f64 y = fy at *
      have HPt : Hid (∀ W, Calls Tryd.prog 14 #[.agg #[.slice pA pn pc, .int .i64 x, .int .i64 y]] W fun e w' => e = .returned (.complex .f64 fx fy) ∧ Below W.heap.size W w') := fun W => by
        rw [← hfx, ← hfy]; exact point_any _ _ _ _
      have Hfx := Lib.hid hfx; clear hfx
      have Hfy := Lib.hid hfy; clear hfy
      have Hown := Lib.hid hown; clear hown
      go_wp2_with fail
      have hv0 : (wr.alloc (.cells #[.slice pA pn pc, .int .i64 x, .int .i64 y] 44)).cell? ⟨wr.heap.size, 0, none⟩ = some (.slice pA pn pc) := by simp
      have hv1 : (wr.alloc (.cells #[.slice pA pn pc, .int .i64 x, .int .i64 y] 44)).cell? ⟨wr.heap.size, 1, none⟩ = some (.int .i64 x) := by simp
      have hv2 : (wr.alloc (.cells #[.slice pA pn pc, .int .i64 x, .int .i64 y] 44)).cell? ⟨wr.heap.size, 2, none⟩ = some (.int .i64 y) := by simp
      have hbv : Below w.heap.size w (wr.alloc (.cells #[.slice pA pn pc, .int .i64 x, .int .i64 y] 44)) := hbel.alloc hbel.size _
      have Hown' := Lib.hid (Hown.out.alloc (.cells #[.slice pA pn pc, .int .i64 x, .int .i64 y] 44))
      have Hpl' := Lib.hid (Hpl.out.alloc (.cells #[.slice pA pn pc, .int .i64 x, .int .i64 y] 44))
      have hzv : (wr.alloc (.cells #[.slice pA pn pc, .int .i64 x, .int .i64 y] 44)).heap.size = wr.heap.size + 1 := by simp
      generalize wr.alloc (.cells #[.slice pA pn pc, .int .i64 x, .int .i64 y] 44) = wv at *
      have Hfarb : Hid (some wr.heap.size ≠ u5.ownBlock) := fun he => by have := (Hown.out.lt _ he.symm).2; omega
      have Hzv := Lib.hid hzv; clear hzv
      have Hbv := Lib.hid hbv; clear hbv
      have hBlt : wr.heap.size < wv.heap.size := cell_lt hv0
      have hg' := fun args (W : World) => hg args W
      go_region_held3 (fun w' => w'.cell? ⟨wr.heap.size, 0, none⟩ = some (.slice pA pn pc) ∧ w'.cell? ⟨wr.heap.size, 1, none⟩ = some (.int .i64 x) ∧ w'.cell? ⟨wr.heap.size, 2, none⟩ = some (.int .i64 y))
        (first
          | go_keep
          | exact ⟨below_cell hb1' hv0 hBlt, below_cell hb1' hv1 hBlt, below_cell hb1' hv2 hBlt⟩
          | exact ⟨below_cell hb3 (below_cell hb1' hv0 hBlt) hBlt1, below_cell hb3 (below_cell hb1' hv1 hBlt) hBlt1, below_cell hb3 (below_cell hb1' hv2 hBlt) hBlt1⟩
          | exact ⟨hgrow.cell (by go_keep) Hfarb.out, hgrow.cell (by go_keep) Hfarb.out, hgrow.cell (by go_keep) Hfarb.out⟩)
        (first
          | (go_at_call 14; refine (HPt.out _).mono ?_; rintro e w1 ⟨rfl, hb1'⟩; have Hb1 := Lib.hid (Hbv.out.drew.trans (hb1'.mono Hbv.out.size)); have hBlt1 : wr.heap.size < w1.heap.size := Nat.lt_of_lt_of_le hBlt hb1'.size)
          | (go_at_call 49; refine (spot_any _ _ _ _ _ path _ _ _ (fun b => b < wr.heap.size) (by rw [Hpn.out]; exact hpr) ((Hpl'.out.drew).belowSize hb1') Hre.out Him.out Hf3.out Hf4.out).mono ?_; rintro e w3 ⟨q, rfl, hq, hb3⟩; obtain ⟨qA, qc, rfl, _, _⟩ := hq.val; rw [Hpn.out] at hq; have HE := elem_spot hq (S' := S') Hf3.out Hf4.out; have HO := own_spot Hown'.out hb1' hb3; rw [Hpn.out]; clear hq)
          | ((with_reducible refine (HC.out w1 Hb1.out).mono ?_); rintro e w2 ⟨re, im, rfl, hre, him, rfl⟩; have Hre := Lib.hid hre; have Him := Lib.hid him; clear hre him)
          | (refine step_push (by rfl) _ _ _ (by rfl) elt_spot Tryd.underlying28 (by rfl) (HO.out.alloc _) ⟨w3.heap.size, 0, none⟩ 1 [.slice qA pn qc, .int .i64 (F x y).1, .int .i64 (F x y).2] ⟨path, (F x y).1, (F x y).2⟩ (by rfl) (Rp.alloc HE.out _)
              (news_of w3 #[.slice qA pn qc, .int .i64 (F x y).1, .int .i64 (F x y).2] _) (by rw [Hlen.out]; simp [maxLen]; omega) (by rw [Hlen.out]; omega) (by simp; exact Nat.le_succ_of_le (Nat.le_trans hbel.size (Nat.le_trans (Nat.le_of_lt hBlt1) hb3.size))) (w3.heap.size + 1) (by simp) ?_; intro g' cap w4 hown4 hgrow hat hg4))
      rw [Hlen.out] at hown4
      go_wp2
      rw [Hlen.out]
      go_roundw
      case rel =>
        have hz13 : w.heap.size ≤ w3.heap.size := Nat.le_trans hbel.size (Nat.le_trans (Nat.le_of_lt hBlt1) hb3.size)
        refine ⟨k + 1, by omega, by go_num, ⟨_, fun b hb => ?_, by rw [Htk.out, List.map_append, Hdone.out]; exact hown4⟩, ?_⟩
        · rcases hb with hb | hb
          · exact hS' b hb
          · have := hb.1; have := hbel.size; omega
        · exact ((Hb1.out.trans (hb3.mono Hb1.out.size)).alloc hz13 _).grown hgrow (by simp; omega) (fun g'' hg'' => (Hown.out.lt g'' hg'').1)
      case measure => simp [intOf]; omega
    · go_wp2
      go_ret
      have hkn : k = l.length := by have := Hnx.out; omega
      obtain ⟨S', hS', hown⟩ := hown.out
      have hsl := hown.slv
      rw [hkn, List.take_length] at hsl
      exact ⟨_, rfl, hsl.more (fun b hb _ => by rcases hb with h | h; exact hS' b h; exact h), hbel⟩
end Go.Proofs.YtkpbnbnfgadkcaaDoor
