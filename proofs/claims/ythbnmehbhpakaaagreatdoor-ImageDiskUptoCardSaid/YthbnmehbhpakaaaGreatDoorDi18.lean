/-
  A path with a name more: the program's.
  walkup.Look.
  The map of a tree's lookups as a plain function, and what it keeps.
  A project's files in plain words: what Files gives, and what a tree that lookups tell of is.
-/
import Derived.Test.YthbnmehbhpakaaaGreatDoorDi10
import Derived.Test.YthbnmehbhpakaaaGreatDoorDi08
import Derived.Test.YthbnmehbhpakaaaGreatDoorDi07
import Derived.Deep.RegionHeld3
import Derived.Test.YthbnmehbhpakaaaGreatDoorDi17
import Derived.Test.YthbnmehbhpakaaaGreatDoorDi14
set_option autoImplicit false
set_option relaxedAutoImplicit false
set_option linter.unusedVariables false
set_option linter.unusedSimpArgs false
namespace Go.Proofs.YthbnmehbhpakaaaGreatDoor
open Go.Rows Go.RowKit Go.Shelf Go.Sort

set_option maxHeartbeats 1600000 in
set_option maxRecDepth 100000 in
theorem joined_any (A : Option Addr) (n c : Nat) (l : List ByteArray) (s : ByteArray) (w : World) (S : Nat → Prop) (hs : s.size ≤ maxLen) (hlen : l.length * 32 ≤ 140737488355328) (hl : SlV rStr w S l (.slice A n c)) :
    Calls Tryz.prog 65 #[.slice A n c, .string s] w fun e w' => ∃ v, e = .returned v ∧ SlV rStr w' (fun _ => True) (l ++ [s]) v ∧ Below w.heap.size w w' := by
  have hm : maxLen = 9223372036854775807 := rfl
  have hnx := hl.n_eq
  have hn63 : n ≤ 9223372036854775807 := by omega
  obtain ⟨i, z, hi, hz, hsz, hby, hzs, hpos⟩ := elt_string
  have hHS := Lib.hid hs; clear hs
  have hnb : n ≤ 4398046511104 := by omega
  have Hnx := Lib.hid hnx; clear hnx
  go_enter Tryz.func65, Tryz.ntmps65
  go_wp2_with (at_make; refine wpList_make_own w (by rfl) _ _ _ (by rfl) w.heap.size 9 i z 1 Tryz.underlying53 hi hz hsz _ _ _ (n + 1) (by rfl) (by rfl) (by omega) (by rw [hby]; have := Hnx.out; omega) (by have := Hnx.out; omega) (Nat.le_refl _) ?_)
  intro w1 hown1 hgrow
  have HB1 : Hid (Below w.heap.size w w1) := (Below.refl _ _).grown hgrow (Nat.le_refl _) (fun k hk => by cases hk)
  have Hown1 : Hid (Own rStr w1 w.heap.size 9 (.slice (some ⟨w.heap.size, 0, none⟩) 0 (n + 1)) [] (fun _ => False)) := ⟨fun b hb => hb.elim, [], hown1, rfl⟩
  have Hl1 : Hid (SlV rStr w1 (fun b => b < w.heap.size) l (.slice A n c)) := (hl.more (S' := fun b => b < w.heap.size) fun b h1 h2 => h2).belowSize HB1.out
  have hw1 := HB1.out.size
  clear hown1 hgrow hl
  go_wp2_with (at_builtin; refine wpList_extend (by rfl) _ _ _ (by rfl) elt_string Tryz.underlying53 (by rfl) Hown1.out (fun b => b < w.heap.size) l _ _ _ (by rfl) Hl1.out (by intro b hb he; simp [Value.ownBlock] at he; omega) (by simp [maxLen]; omega) (by simp; omega) hw1 ?_)
  intro v2 w2 hown2 hgrow2 hat2
  have HB2 : Hid (Below w.heap.size w w2) := bgrown HB1.out hgrow2 Hown1.out (Nat.le_refl _)
  have Hown2 : Hid (Own rStr w2 w.heap.size 9 v2 l (fun b => b < w.heap.size ∧ b < w1.heap.size)) := hown2
  have hw2 := HB2.out.size
  have Hlen : Hid (l.length = n) := Hnx.out.symm
  clear hown2 hgrow2 hat2 Hown1 Hl1 hlen
  go_wp2_with (at_builtin; refine wpList_push (by rfl) _ _ _ (by rfl) elt_string Tryz.underlying53 (by rfl) (Hown2.out.alloc _) ⟨w2.heap.size, 0, none⟩ 1 [.string s] s (by rfl) ⟨rfl, hHS.out⟩ (news_of w2 #[.string s] _) (by rw [Hlen.out]; unfold maxLen; omega) (by rw [Hlen.out]; omega) (by simp; omega) (w2.heap.size + 1) (by simp) ?_)
  intro g9 cap9 w9 hown9 hgrow9 hat9 hlt9
  have HB9 := Lib.hid (bgrown (bal HB2.out _) hgrow9 (Hown2.out.alloc _) (Nat.le_refl _))
  have Hown9 := Lib.hid hown9
  clear hown9 hgrow9
  go_wp2_with fail
  go_ret
  exact ⟨_, rfl, Hown9.out.slv.more (fun b _ _ => trivial), HB9.out⟩
end Go.Proofs.YthbnmehbhpakaaaGreatDoor
/-
  A path with a name more: the document's.
-/
set_option autoImplicit false
set_option relaxedAutoImplicit false
set_option linter.unusedVariables false
set_option linter.unusedSimpArgs false
namespace Go.Proofs.YthbnmehbhpakaaaGreatDoor
open Go.Rows Go.RowKit Go.Shelf Go.Sort

end Go.Proofs.YthbnmehbhpakaaaGreatDoor
set_option autoImplicit false
set_option relaxedAutoImplicit false
set_option linter.unusedVariables false
set_option linter.unusedSimpArgs false
namespace Go.Proofs.YthbnmehbhpakaaaGreatDoor
open Go.Rows Go.RowKit Go.Shelf Go.Sort

/-- a lookup from a path of whose names the first q are left -/
noncomputable def lookDown (t : List Dir) (p : List ByteArray) (s : ByteArray) : Nat → Int
  | 0 => -1
  | q + 1 => bif decide (0 ≤ findI t (p.take q ++ [s])) then findI t (p.take q ++ [s]) else lookDown t p s q
noncomputable def lookI (t : List Dir) (i : Int) (s : ByteArray) : Int :=
  if h : 0 ≤ i ∧ i.toNat < t.length then (bif nameB s then lookDown t (t[i.toNat]'h.2).path s ((t[i.toNat]'h.2).path.length + 1) else -1) else -1

theorem keepL {w0 W W' : World} {a : Nat} {v : Value} (hb : Below W.heap.size W W') (hc : W.cell? ⟨a, 0, none⟩ = some v) (hB : Below w0.heap.size w0 W) (hz : a < w0.heap.size) : W'.cell? ⟨a, 0, none⟩ = some v ∧ Below w0.heap.size w0 W' :=
  ⟨below_cell hb hc (Nat.lt_of_lt_of_le hz hB.size), bot hB hb⟩

set_option maxHeartbeats 3200000 in
set_option maxRecDepth 100000 in
theorem look_any (A : Option Addr) (n c : Nat) (xs : List Dir) (s : ByteArray) (w : World) (S : Nat → Prop) (i : Int) (hs : s.size ≤ maxLen) (hlen : ∀ d ∈ xs, d.path.length * 32 ≤ 140737488355328) (hx : SlV rDir w S xs (.slice A n c)) :
    Calls Tryz.prog 19 #[.agg #[.slice A n c], .int .i64 i, .string s] w fun e w' => e = .returned (.int .i64 (lookI xs i s)) ∧ Below w.heap.size w w' := by
  have hnx := hx.n_eq
  have hcx := hx.cap_le
  unfold maxLen at hcx
  by_cases h0 : i < 0
  · have hd : decide (i < 0) = true := decide_eq_true h0
    have He : Hid (lookI xs i s = -1) := by unfold Hid lookI; rw [dif_neg (by omega)]
    clear hx hnx hcx hlen
    generalize lookI xs i s = R at *
    go_enter Tryz.func19, Tryz.ntmps19
    go_wp2_with fail
    go_ret
    exact ⟨ret_int He.out.symm, bal (Below.refl _ _) _⟩
  have hd : decide (i < 0) = false := decide_eq_false h0
  by_cases h1 : (n : Int) ≤ i
  · have hd1 : decide ((n : Int) ≤ i) = true := decide_eq_true h1
    have He : Hid (lookI xs i s = -1) := by unfold Hid lookI; rw [dif_neg (by omega)]
    clear hx hnx hcx hlen
    generalize lookI xs i s = R at *
    go_enter Tryz.func19, Tryz.ntmps19
    go_wp2_with fail
    go_ret
    exact ⟨ret_int He.out.symm, bal (Below.refl _ _) _⟩
  have hd1 : decide ((n : Int) ≤ i) = false := decide_eq_false h1
  obtain ⟨k, rfl⟩ : ∃ k : Nat, i = (k : Int) := ⟨i.toNat, by omega⟩
  have hk : k < xs.length := by omega
  have Hnm := Lib.hid (fun W => scanName_any s hs W)
  have HR : Hid (lookI xs (k : Int) s = bif nameB s then lookDown xs xs[k].path s (xs[k].path.length + 1) else -1) := by
    unfold Hid lookI; rw [dif_pos (by omega)]; simp only [Int.toNat_natCast]
  generalize lookI xs (k : Int) s = R at *
  have hkn : (k : Int) < (n : Int) := by omega
  have hk0 : (0 : Int) ≤ (k : Int) := by omega
  cases hnb : nameB s
  · have He : Hid (R = -1) := by unfold Hid; rw [HR.out, hnb]; rfl
    rw [hnb] at Hnm
    clear hx hnx hcx hlen hnb HR
    go_enter Tryz.func19, Tryz.ntmps19
    go_wp2_with fail
    refine (Hnm.out _).mono ?_
    rintro e w1 ⟨rfl, B1⟩
    go_wp2_with fail
    go_ret
    exact ⟨ret_int He.out.symm, bnew B1⟩
  rw [hnb] at Hnm
  have HR1 : Hid (R = lookDown xs xs[k].path s (xs[k].path.length + 1)) := by unfold Hid; rw [HR.out, hnb]; rfl
  clear HR hnb
  have hlk := hlen xs[k] (List.getElem_mem hk)
  have HX := Lib.hid hx
  have HS := Lib.hid hs
  obtain ⟨b, o, cs, rfl, _, hb1, hh, hcell⟩ := hx.elem (List.getElem?_eq_getElem hk)
  obtain ⟨s0, s1, s2, s3, rfl, hp, _, _, _, _, _, _, _, _⟩ := hh
  obtain ⟨pA, pc, rfl, hpl, hpm⟩ := hp.val
  unfold maxLen at hpm
  have c0 := hcell 0 _ rfl
  simp only [rDir, Nat.add_zero] at c0
  have HP := Lib.hid hp
  clear hcell hp hx hs hlen hcx hnx
  generalize xs[k].path = path at *
  generalize hl0 : path.length = l0 at *
  have Hl0 := Lib.hid hl0; clear hl0
  go_enter Tryz.func19, Tryz.ntmps19
  go_wp2_with fail
  obtain ⟨w0, hw0⟩ : ∃ w0, w0 = w.alloc (.cells #[.slice (some ⟨b, o, none⟩) n c] 30) := ⟨_, rfl⟩
  have hz : w.heap.size < w0.heap.size := by rw [hw0]; simp [go_sem]
  have hb0 : Below w.heap.size w w0 := by rw [hw0]; exact bal (Below.refl _ _) _
  have a0 : w0.cell? ⟨w.heap.size, 0, none⟩ = some (.slice (some ⟨b, o, none⟩) n c) := by rw [hw0]; simp [go_sem]
  rw [← hw0]
  have HB0 := Lib.hid hb0; clear hb0 hw0
  refine (Hnm.out w0).mono ?_
  rintro e w1 ⟨rfl, B1⟩
  have Q1 := Lib.hid B1; clear B1 Hnm
  have e0 := below_cell (bot HB0.out Q1.out) c0 hb1
  have e1 := below_cell Q1.out a0 hz
  go_wp2_with fail
  clear e0 e1
  go_loopw [8] (fun i wr => ((i = .int .i64 (-1) ∧ Hid (R = -1)) ∨ ∃ q : Nat, q ≤ l0 ∧ i = .int .i64 q ∧ Hid (R = lookDown xs path s (q + 1))) ∧ Below w0.heap.size w0 wr) (fun i _ => (intOf i + 1).toNat)
  case atStart => exact ⟨.inr ⟨l0, Nat.le_refl _, rfl, HR1⟩, Q1.out⟩
  case round =>
    obtain ⟨hor, hbel⟩ := hrel
    have b0 := below_cell hbel a0 hz
    have hbel' := bot HB0.out hbel
    rcases hor with ⟨rfl, He⟩ | ⟨q, hq, rfl, HRq⟩
    · go_wp2_with fail
      go_ret
      exact ⟨ret_int He.out.symm, hbel'⟩
    · have hq0 : (0 : Int) ≤ (q : Int) := by omega
      have hqc : q ≤ pc := by omega
      have hw2 : IntKind.i64.wrap (q : Int) = (q : Int) := IntWalk.i64_in _ ⟨by omega, by omega⟩
      go_wp2_with fail
      have Hj : Hid (∀ W, Below w0.heap.size w0 W → Calls Tryz.prog 65 #[.slice pA q pc, .string s] W fun e w' => ∃ v, e = .returned v ∧ SlV rStr w' (fun _ => True) (path.take q ++ [s]) v ∧ Below W.heap.size W w') := fun W hW =>
        joined_any pA q pc (path.take q) s W _ HS.out (by rw [List.length_take]; omega) (SlV.take (HP.out.belowSize (bot HB0.out hW)) (by rw [Hl0.out]; exact hq))
      have Hf : Hid (∀ W vA m vc, Below w0.heap.size w0 W → SlV rStr W (fun _ => True) (path.take q ++ [s]) (.slice vA m vc) → Calls Tryz.prog 64 #[.agg #[.slice (some ⟨b, o, none⟩) n c], .slice vA m vc] W fun e w' => e = .returned (.int .i64 (findI xs (path.take q ++ [s]))) ∧ Below W.heap.size W w') := fun W vA m vc hW hv =>
        find_any _ _ _ _ _ _ xs _ W _ _ (HX.out.belowSize (bot HB0.out hW)) hv
      have Hst : Hid (lookDown xs path s (q + 1) = bif decide (0 ≤ findI xs (path.take q ++ [s])) then findI xs (path.take q ++ [s]) else lookDown xs path s q) := rfl
      generalize findI xs (path.take q ++ [s]) = f at *
      generalize path.take q ++ [s] = jp at *
      generalize lookDown xs path s (q + 1) = LD at *
      go_region_held3 (fun w' => w'.cell? ⟨w.heap.size, 0, none⟩ = some (.slice (some ⟨b, o, none⟩) n c) ∧ Below w0.heap.size w0 w')
        (first
          | exact ⟨b0, hbel.drew⟩
          | (go_split_ands; exact keepL (by assumption) (by assumption) (by assumption) hz))
        (first
          | (go_at_call 65; go_split_ands; with_reducible refine (Hj.out _ (by assumption)).mono ?_; rintro e w2 ⟨v, rfl, hv, hb2⟩; obtain ⟨vA, vc, rfl, _, _⟩ := hv.val)
          | (go_at_call 64; go_split_ands; with_reducible refine (Hf.out _ _ _ _ (by assumption) (by assumption)).mono ?_; rintro e w3 ⟨rfl, hb3⟩))
      all_goals
        have HBw : Hid (Below w0.heap.size w0 w3) := by (go_split_ands; assumption)
        have HRr : Hid (R = bif decide (0 ≤ f) then f else lookDown xs path s q) := HRq.out.trans Hst.out
        by_cases hf : 0 ≤ f
        · have He : Hid (R = f) := by unfold Hid; rw [HRr.out, decide_eq_true hf]; rfl
          go_wp2_with fail
          go_ret
          exact ⟨ret_int He.out.symm, bot HB0.out HBw.out⟩
        · have hfk : decide (0 ≤ f) = false := decide_eq_false hf
          have He : Hid (R = lookDown xs path s q) := by unfold Hid; rw [HRr.out, hfk]; rfl
          have hwm : IntKind.i64.wrap ((q : Int) - 1) = (q : Int) - 1 := IntWalk.i64_in _ ⟨by omega, by omega⟩
          clear hf HRr
          go_wp2_with fail
          go_roundw
          case rel =>
            refine ⟨?_, HBw.out⟩
            by_cases hq00 : q = 0
            · exact .inl ⟨by simp [hq00], by unfold Hid; rw [He.out, hq00]; rfl⟩
            · obtain ⟨q', rfl⟩ : ∃ q', q = q' + 1 := ⟨q - 1, by omega⟩
              exact .inr ⟨q', by omega, by congr 1; omega, He⟩
          case measure => simp [intOf]
end Go.Proofs.YthbnmehbhpakaaaGreatDoor
/-
  The document's Look.
-/
set_option autoImplicit false
set_option relaxedAutoImplicit false
set_option linter.unusedVariables false
set_option linter.unusedSimpArgs false
namespace Go.Proofs.YthbnmehbhpakaaaGreatDoor
open Go.Rows Go.RowKit Go.Shelf Go.Sort

end Go.Proofs.YthbnmehbhpakaaaGreatDoor
set_option autoImplicit false
set_option relaxedAutoImplicit false
set_option linter.unusedVariables false
set_option linter.unusedSimpArgs false
namespace Go.Proofs.YthbnmehbhpakaaaGreatDoor
open Go.Rows Go.RowKit Go.Shelf Go.Sort

theorem findI_range (t : List Dir) (p : List ByteArray) : -1 ≤ findI t p ∧ findI t p < (t.length : Int) := by
  unfold findI
  rcases firstI_lt (fun d => eqB d.path p) t with h | ⟨j, h, hj, _⟩
  · rw [h.1]; omega
  · rw [h]; omega
theorem lookDown_range (t : List Dir) (p : List ByteArray) (s : ByteArray) : ∀ q, -1 ≤ lookDown t p s q ∧ lookDown t p s q < (t.length : Int) := by
  intro q
  induction q with
  | zero => unfold lookDown; omega
  | succ q ih =>
    unfold lookDown
    cases decide (0 ≤ findI t (p.take q ++ [s]))
    · exact ih
    · exact findI_range _ _
theorem lookI_range (t : List Dir) (i : Int) (s : ByteArray) : -1 ≤ lookI t i s ∧ lookI t i s < (t.length : Int) := by
  unfold lookI
  split
  · cases nameB s
    · show (-1 : Int) ≤ -1 ∧ (-1 : Int) < t.length; omega
    · exact lookDown_range _ _ _ _
  · omega

/-- which node a directory's package is -/
noncomputable def packIs (t : List Dir) (g : List Node) (q : Nat) (e : Nat) : Bool :=
  match t[q]?, g[e]? with
  | some d, some x => decide (d.pack.name = x.name) && eqB d.pack.ver x.ver
  | _, _ => false
theorem packIs_at {t : List Dir} {g : List Node} {q e : Nat} (h1 : q < t.length) (h2 : e < g.length) : packIs t g q e = (decide (t[q].pack.name = g[e].name) && eqB t[q].pack.ver g[e].ver) := by
  unfold packIs; rw [List.getElem?_eq_getElem h1, List.getElem?_eq_getElem h2]

abbrev MSt := List Int × List Nat
noncomputable def mapEdge (t : List Dir) (g : List Node) (a : Nat) (s : MSt) (e : Edge) : Option MSt :=
  if 0 ≤ lookI t a e.label ∧ packIs t g (lookI t a e.label).toNat e.to.toNat = true then
    (if s.1[(lookI t a e.label).toNat]? = some (-1) then some (s.1.set (lookI t a e.label).toNat e.to, s.2 ++ [(lookI t a e.label).toNat])
     else if s.1[(lookI t a e.label).toNat]? = some e.to then some s else none)
  else none
noncomputable def mapEdges (t : List Dir) (g : List Node) (a : Nat) : List Edge → MSt → Option MSt
  | [], s => some s
  | e :: es, s => match mapEdge t g a s e with
    | none => none
    | some s' => mapEdges t g a es s'
def edgesOf (g : List Node) (i : Int) : List Edge := match g[i.toNat]? with | some x => x.edges | none => []
noncomputable def mapLoop (t : List Dir) (g : List Node) : Nat → MSt → Option (List Int)
  | 0, _ => none
  | _ + 1, (m, []) => some m
  | f + 1, (m, a :: rest) => match mapEdges t g a (edgesOf g (m.getD a 0)) (m, rest) with
    | none => none
    | some s => mapLoop t g f s
noncomputable def mapNext (t : List Dir) (g : List Node) (f : Nat) : Option MSt → Option (List Int)
  | none => none
  | some s => mapLoop t g f s
theorem mapLoop_cons (t : List Dir) (g : List Node) (f : Nat) (m : List Int) (a : Nat) (rest : List Nat) : mapLoop t g (f + 1) (m, a :: rest) = mapNext t g f (mapEdges t g a (edgesOf g (m.getD a 0)) (m, rest)) := by
  rw [mapLoop]; cases mapEdges t g a (edgesOf g (m.getD a 0)) (m, rest) <;> rfl
theorem mapEdges_at (t : List Dir) (g : List Node) (a : Nat) {es : List Edge} {k : Nat} (h : k < es.length) (s : MSt) : mapEdges t g a (es.drop k) s = match mapEdge t g a s es[k] with | none => none | some s' => mapEdges t g a (es.drop (k + 1)) s' := by
  rw [List.drop_eq_getElem_cons h, mapEdges]
noncomputable def map0 (n : Nat) : MSt := (0 :: List.replicate (n - 1) (-1), [0])
/-- the answer: the map and the errno -/
noncomputable def mapR (t : List Dir) (g : List Node) : Option (List Int) × Int :=
  if checkE t ≠ 0 then (none, 42)
  else if formedB g = false then (none, 33)
  else match mapLoop t g (t.length + 1) (map0 t.length) with
    | none => (none, 42)
    | some m => (some m, 0)

/-- how many directories have no node yet -/
def freeN (m : List Int) : Nat := m.count (-1)
structure MInv (n : Nat) (gl : Nat) (s : MSt) : Prop where
  len : s.1.length = n
  rng : ∀ x ∈ s.1, -1 ≤ x ∧ x < (gl : Int)
  rest : ∀ r ∈ s.2, ∃ x, s.1[r]? = some x ∧ 0 ≤ x
theorem count_set_free : ∀ (m : List Int) (q : Nat) (v : Int), m[q]? = some (-1) → v ≠ -1 → freeN (m.set q v) + 1 = freeN m := by
  intro m
  induction m with
  | nil => intro q v h _; simp at h
  | cons x m ih =>
    intro q v h hv
    cases q with
    | zero =>
      simp at h
      subst h
      unfold freeN
      rw [List.set_cons_zero, List.count_cons_self, List.count_cons_of_ne hv]
    | succ q =>
      simp at h
      have := ih q v h hv
      unfold freeN at this ⊢
      rw [List.set_cons_succ, List.count_cons, List.count_cons]
      omega
theorem MInv.edge {n : Nat} {t : List Dir} {g : List Node} {a : Nat} {s s' : MSt} {e : Edge} (h : MInv n g.length s) (he : edgeB g.length e = true) (hm : mapEdge t g a s e = some s') :
    MInv n g.length s' ∧ freeN s'.1 + s'.2.length = freeN s.1 + s.2.length ∧ (∀ (r : Nat) (x : Int), s.1[r]? = some x → 0 ≤ x → s'.1[r]? = some x) := by
  unfold edgeB at he
  simp only [Bool.and_eq_true, decide_eq_true_eq] at he
  unfold mapEdge at hm
  split at hm
  · split at hm
    · rename_i hc hf
      injection hm with hm
      subst hm
      have hkeep : ∀ (r : Nat) (x : Int), s.1[r]? = some x → 0 ≤ x → (s.1.set (lookI t a e.label).toNat e.to)[r]? = some x := fun r x hr hx => by
        rw [List.getElem?_set_ne (by rintro rfl; rw [hf] at hr; injection hr with hr; omega)]; exact hr
      refine ⟨⟨by simpa using h.len, fun x hx => ?_, fun r hr => ?_⟩, ?_, hkeep⟩
      · rcases List.mem_or_eq_of_mem_set hx with hx | rfl
        · exact h.rng x hx
        · omega
      · rw [List.mem_append] at hr
        rcases hr with hr | hr
        · obtain ⟨x, h1, h2⟩ := h.rest r hr
          exact ⟨x, hkeep r x h1 h2, h2⟩
        · simp at hr
          subst hr
          refine ⟨e.to, ?_, by omega⟩
          rw [List.getElem?_set_self (List.getElem?_eq_some_iff.1 hf).1]
      · have := count_set_free s.1 _ e.to hf (by omega)
        show freeN (s.1.set _ e.to) + (s.2 ++ [_]).length = _
        rw [List.length_append, List.length_singleton]
        omega
    · split at hm
      · injection hm with hm
        subst hm
        exact ⟨h, rfl, fun _ _ h _ => h⟩
      · cases hm
  · cases hm
theorem MInv.edges {n : Nat} {t : List Dir} {g : List Node} {a : Nat} : ∀ {es : List Edge} {s s' : MSt}, MInv n g.length s → es.all (edgeB g.length) = true → mapEdges t g a es s = some s' →
    MInv n g.length s' ∧ freeN s'.1 + s'.2.length = freeN s.1 + s.2.length ∧ (∀ (r : Nat) (x : Int), s.1[r]? = some x → 0 ≤ x → s'.1[r]? = some x) := by
  intro es
  induction es with
  | nil => intro s s' h _ hm; rw [mapEdges] at hm; injection hm with hm; subst hm; exact ⟨h, rfl, fun _ _ h _ => h⟩
  | cons e es ih =>
    intro s s' h ha hm
    rw [List.all_cons, Bool.and_eq_true] at ha
    rw [mapEdges] at hm
    split at hm
    · cases hm
    · rename_i s1 hs1
      obtain ⟨h1, h2, h3⟩ := h.edge ha.1 hs1
      obtain ⟨h4, h5, h6⟩ := ih h1 ha.2 hm
      exact ⟨h4, by omega, fun r x hr hx => h6 r x (h3 r x hr hx) hx⟩
theorem MInv.start {n gl : Nat} (hn : 0 < n) (hg : 0 < gl) : MInv n gl (map0 n) ∧ freeN (map0 n).1 + (map0 n).2.length = n := by
  refine ⟨⟨by simp [map0]; omega, fun x hx => ?_, fun r hr => ?_⟩, ?_⟩
  · simp [map0] at hx
    rcases hx with rfl | ⟨_, rfl⟩ <;> omega
  · simp [map0] at hr
    subst hr
    exact ⟨0, rfl, Int.le_refl _⟩
  · simp [map0, freeN]
    omega
theorem formed_edges {g : List Node} (h : formedB g = true) : 0 < g.length ∧ ∀ x ∈ g, x.edges.all (edgeB g.length) = true := by
  unfold formedB at h
  simp only [Bool.and_eq_true, decide_eq_true_eq, List.all_eq_true] at h
  exact ⟨h.2, fun x hx => h.1 x hx⟩
theorem edgesOf_all {g : List Node} (h : formedB g = true) (i : Int) : (edgesOf g i).all (edgeB g.length) = true := by
  unfold edgesOf
  split
  · rename_i x hx
    exact (formed_edges h).2 x (List.mem_of_getElem? hx)
  · rfl
end Go.Proofs.YthbnmehbhpakaaaGreatDoor
set_option autoImplicit false
set_option relaxedAutoImplicit false
set_option linter.unusedVariables false
set_option linter.unusedSimpArgs false
namespace Go.Proofs.YthbnmehbhpakaaaGreatDoor
open Go

/-! ### the map's length -/
theorem mapLoop_len {t : List Dir} {g : List Node} (hf : formedB g = true) : ∀ {f : Nat} {s : MSt} {m : List Int}, MInv t.length g.length s → mapLoop t g f s = some m → m.length = t.length
  | 0, s, m, _, h => by rw [mapLoop] at h; cases h
  | f + 1, (m0, []), m, hi, h => by
    rw [mapLoop] at h
    cases h
    exact hi.len
  | f + 1, (m0, a :: rest), m, hi, h => by
    rw [mapLoop] at h
    cases he : mapEdges t g a (edgesOf g (m0.getD a 0)) (m0, rest) with
    | none => rw [he] at h; cases h
    | some s' =>
      rw [he] at h
      have hi' : MInv t.length g.length (m0, rest) := ⟨hi.len, hi.rng, fun r hr => hi.rest r (by simp [hr])⟩
      exact mapLoop_len hf (MInv.edges hi' (edgesOf_all hf _) he).1 h
theorem mapR_ok {t : List Dir} {g : List Node} (h : (mapR t g).2 = 0) : checkE t = 0 ∧ formedB g = true ∧ ∃ m, (mapR t g).1 = some m ∧ m.length = t.length := by
  unfold mapR at h ⊢
  by_cases h1 : checkE t ≠ 0
  · rw [if_pos h1] at h; cases h
  rw [if_neg h1] at h ⊢
  have h1' : checkE t = 0 := Classical.not_not.1 h1
  by_cases h2 : formedB g = false
  · rw [if_pos h2] at h; cases h
  rw [if_neg h2] at h ⊢
  rw [Bool.not_eq_false] at h2
  cases hm : mapLoop t g (t.length + 1) (map0 t.length) with
  | none => rw [hm] at h; cases h
  | some m =>
    refine ⟨h1', h2, m, rfl, mapLoop_len h2 (MInv.start ?_ (formed_edges h2).1).1 hm⟩
    have := h1'
    unfold checkE at this
    split at this
    · cases this
    · omega

/-! ### is a tree placed? -/
def placedAt (t : List Dir) (m : List Int) (k : Nat) (d : Dir) : Bool := decide (m.getD k 0 = d.node) && (decide (k = 0) || lessB (textB (t.getD (k - 1) d).path) (textB d.path))
def placedGo (t : List Dir) (m : List Int) : Nat → List Dir → Bool
  | _, [] => true
  | k, d :: l => placedAt t m k d && placedGo t m (k + 1) l
theorem placedGo_step {t : List Dir} {m : List Int} {k : Nat} {d : Dir} (h : t[k]? = some d) : placedGo t m k (t.drop k) = (placedAt t m k d && placedGo t m (k + 1) (t.drop (k + 1))) := by
  obtain ⟨hk, e⟩ := List.getElem?_eq_some_iff.1 h
  rw [List.drop_eq_getElem_cons hk, e, placedGo]
theorem placedGo_done {t : List Dir} {m : List Int} {k : Nat} (h : t.length ≤ k) : placedGo t m k (t.drop k) = true := by
  rw [List.drop_eq_nil_of_le h]; rfl
noncomputable def placedB (s : Proj) : Bool := decide ((mapR s.dirs s.nodes).2 = 0) && placedGo s.dirs ((mapR s.dirs s.nodes).1.getD []) 0 s.dirs
def man0 : Mani := ⟨[], [], [], []⟩
noncomputable def emptyQ (s : Proj) : Bool := eqB s.man man0 && (decide (s.nodes.length = 1) && (decide (s.dirs.length = 1) && !s.pruned))
noncomputable def mayI (s : Proj) : Bool := maniB s.man && (lockB s.nodes && placedB s)
/-- what Files gives -/
noncomputable def imgF (s : Proj) : List File × Int := if mayI s = true then (if emptyQ s = true then ([], 0) else (sortS (imgU s), 0)) else ([], 43)

/-! ### what stands in a placed tree -/
theorem dirK_of {t : List Dir} (h : checkE t = 0) : ∀ j d, t[j]? = some d → DirK j d := fun j d hd => by
  obtain ⟨hj, e⟩ := List.getElem?_eq_some_iff.1 hd
  by_cases h0 : j = 0
  · subst h0
    have := root_of h hj
    rw [e] at this
    exact ⟨by rw [this]; rfl, by rw [this]; simp⟩
  · have h1 := okGo_stands t t 0 (checkE_ok h) j hj (by omega)
    rw [Nat.zero_add, e] at h1
    unfold standsB at h1
    simp only [Bool.and_eq_true, decide_eq_true_eq] at h1
    have hp : d.path ≠ [] := fun e2 => h1.1 (by rw [e2]; rfl)
    refine ⟨?_, fun e2 => absurd e2 h0, fun e2 => absurd e2 hp⟩
    have h2 := h1.2.1
    unfold textB at h2
    rw [if_neg hp] at h2
    split at h2
    · assumption
    · exact absurd rfl h2
theorem dir_pack {t : List Dir} (h : checkE t = 0) {j : Nat} {d : Dir} (hd : t[j]? = some d) (h1 : 1 ≤ j) : packB d.pack = true ∧ (textB d.path).size ≤ 1024 := by
  obtain ⟨hj, e⟩ := List.getElem?_eq_some_iff.1 hd
  have h2 := okGo_stands t t 0 (checkE_ok h) j hj (by omega)
  rw [Nat.zero_add, e] at h2
  unfold standsB at h2
  simp only [Bool.and_eq_true, decide_eq_true_eq] at h2
  exact ⟨h2.2.2.2.2.2.2.2.1, h2.2.2.1⟩
theorem dirs_nodup {t : List Dir} (h : checkE t = 0) : (t.map (·.path)).Nodup := by
  rw [List.nodup_iff_pairwise_ne, List.pairwise_map]
  refine List.pairwise_iff_getElem.2 fun i j hi hj hij e => ?_
  have h1 := findI_self h hi
  have h2 := findI_self h hj
  rw [e, h2] at h1
  omega
theorem dirs_len {t : List Dir} (h : checkE t = 0) : 1 ≤ t.length ∧ t.length ≤ 257 := by
  unfold checkE at h
  split at h
  · cases h
  · omega
theorem imgU_apart {s : Proj} (h : mayI s = true) : ((imgU s).map (·.path)).Nodup := by
  unfold mayI placedB at h
  simp only [Bool.and_eq_true, decide_eq_true_eq] at h
  have := (mapR_ok h.2.2.1).1
  exact imgU_nodup (dirK_of this) (dirs_nodup this)
theorem mayI_check {s : Proj} (h : mayI s = true) : checkE s.dirs = 0 := by
  unfold mayI placedB at h
  simp only [Bool.and_eq_true, decide_eq_true_eq] at h
  exact (mapR_ok h.2.2.1).1
theorem imgDirs_len (xs : List Dir) : ∀ (l : List Dir) (i : Nat), (imgDirs xs i l).length ≤ 3 * l.length
  | [], _ => Nat.le_refl _
  | d :: l, i => by
    have := imgDirs_len xs l (i + 1)
    rw [imgDirs, List.length_append, List.length_cons]
    have h2 : (imgDir xs i d).length ≤ 3 := by
      unfold imgDir
      rw [List.length_append]
      split <;> split <;> simp
    omega
theorem imgU_len (s : Proj) : 2 ≤ (imgU s).length ∧ (imgU s).length ≤ 3 * s.dirs.length + 3 := by
  have := imgDirs_len s.dirs s.dirs 0
  unfold imgU
  rw [List.length_append, List.length_append]
  split <;> simp <;> omega
end Go.Proofs.YthbnmehbhpakaaaGreatDoor
