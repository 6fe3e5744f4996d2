/-
  A graph's text as lines, in plain words; what is written is read as it was; two graphs with one text are the same.
  Two projects with the same files are the same, in plain words.
-/
import Derived.Test.YthbnmehbhpakaaaGreatDoorOn15
import Derived.Test.YthbnmehbhpakaaaGreatDoorOn18
import Derived.Test.YthbnmehbhpakaaaGreatDoorOn34
import Derived.Test.YthbnmehbhpakaaaGreatDoorOn19
set_option autoImplicit false
set_option relaxedAutoImplicit false
set_option linter.unusedVariables false
set_option linter.unusedSimpArgs false
namespace Go.Proofs.YthbnmehbhpakaaaGreatDoor
open Go

def lockK0 : ByteArray := ⟨#[108, 111, 99, 107]⟩
def rootK : ByteArray := ⟨#[114, 111, 111, 116]⟩
def nodeK : ByteArray := ⟨#[110, 111, 100, 101]⟩
def withK : ByteArray := ⟨#[119, 105, 116, 104]⟩
def toK : ByteArray := ⟨#[116, 111]⟩

/-! ### the lines of a text -/
/-- a text that is lines, whatever stands behind -/
def Ln (a : ByteArray) (ls : List (List ByteArray)) : Prop := ∀ t, linesF (a.data.toList ++ t) = (linesF t).map ((ls.map fun w => w.map (·.data.toList)) ++ ·)
theorem Ln.nil : Ln ⟨#[]⟩ [] := fun t => by
  show linesF t = _
  cases linesF t <;> rfl
theorem Ln.append {a b : ByteArray} {x y : List (List ByteArray)} (ha : Ln a x) (hb : Ln b y) : Ln (a ++ b) (x ++ y) := fun t => by
  rw [ByteArray.data_append, Array.toList_append, List.append_assoc, ha, hb, Option.map_map, List.map_append]
  congr 1
  funext z
  simp
theorem Ln.done {a : ByteArray} {ls : List (List ByteArray)} (h : Ln a ls) : linesB a = some ls := by
  have h1 := h []
  rw [List.append_nil, show linesF [] = some [] from rfl, Option.map_some, List.append_nil] at h1
  unfold linesB
  rw [h1, Option.map_some, List.map_map]
  have e : (fun w : List (List UInt8) => w.map mkB) ∘ (fun w : List ByteArray => w.map (·.data.toList)) = id := by
    funext w
    show (w.map (·.data.toList)).map mkB = w
    rw [List.map_map]
    have : mkB ∘ (fun x : ByteArray => x.data.toList) = id := by funext x; exact mkB_self x
    rw [this, List.map_id]
  rw [e, List.map_id]
theorem Ln.one {a w : ByteArray} (hw : GoodB w) (h : a.data.toList = w.data.toList ++ [10]) : Ln a [[w]] := fun t => by
  obtain ⟨n1, n2⟩ := noblank hw.2
  rw [h, List.append_assoc, List.singleton_append, linesF_line n2, lineF_one (wordOk_of hw.1 hw.2) n1]
  rfl
theorem Ln.three {a u v w : ByteArray} (hu : GoodB u) (hv : GoodB v) (hw : GoodB w) (h : a.data.toList = u.data.toList ++ 32 :: (v.data.toList ++ 32 :: (w.data.toList ++ [10]))) : Ln a [[u, v, w]] := fun t => by
  obtain ⟨u1, u2⟩ := noblank hu.2
  obtain ⟨v1, v2⟩ := noblank hv.2
  obtain ⟨w1, w2⟩ := noblank hw.2
  have e : a.data.toList ++ t = (u.data.toList ++ 32 :: (v.data.toList ++ 32 :: w.data.toList)) ++ 10 :: t := by rw [h]; simp
  rw [e, linesF_line (by
    simp only [List.mem_append, List.mem_cons, not_or]
    exact ⟨u2, by decide, v2, by decide, w2⟩)]
  rw [lineF_cons (wordOk_of hu.1 hu.2) u1 (lineF_cons (wordOk_of hv.1 hv.2) v1 (lineF_one (wordOk_of hw.1 hw.2) w1))]
  rfl
theorem itoa_good {n : Int} (h0 : 0 ≤ n) (h1 : n ≤ 999) : GoodB (itoaB n) := by
  obtain ⟨ha, hd⟩ := itoa_read h0 h1
  refine ⟨fun e => ?_, fun c hc => ?_⟩
  · rw [e] at ha
    cases ha
  · have := List.all_eq_true.1 hd c hc
    simp only [Bool.and_eq_true, decide_eq_true_eq] at this
    unfold visB
    rw [decide_eq_true (show 33 ≤ c.toNat by omega), decide_eq_true (show c.toNat ≤ 126 by omega)]
    rfl

def withLs (q : Pin) : List ByteArray := [withK, q.name, q.ver.txt]
def toLs (e : Edge) : List ByteArray := [toK, e.label, itoaB e.to]
def headLs (i : Nat) (x : Node) : List ByteArray := if i = 0 then [rootK] else [nodeK, x.name, x.ver.txt]
def nodeLs (i : Nat) (x : Node) : List (List ByteArray) := headLs i x :: (x.ctx.map withLs ++ x.edges.map toLs)
def nodesLs : Nat → List Node → List (List ByteArray)
  | _, [] => []
  | i, x :: l => nodeLs i x ++ nodesLs (i + 1) l
def lockLs (l : List Node) : List (List ByteArray) := [lockK0] :: nodesLs 0 l

theorem withs_ln : ∀ {l : List Pin}, (∀ q ∈ l, nameB q.name = true ∧ verOk q.ver = true) → Ln (withs l) (l.map withLs)
  | [], _ => Ln.nil
  | q :: l, h => by
    obtain ⟨h1, h2⟩ := h q (by simp)
    rw [withs, List.map_cons, show withLs q :: l.map withLs = [withLs q] ++ l.map withLs from rfl]
    refine Ln.append (Ln.three (u := withK) (by unfold GoodB; decide) (name_vis h1) (txt_vis h2) ?_) (withs_ln fun x hx => h x (by simp [hx]))
    show (withW ++ q.name ++ spaceB ++ q.ver.txt ++ nlB).data.toList = _
    simp [withW, withK, spaceB, nlB]
theorem tos_ln : ∀ {l : List Edge}, (∀ e ∈ l, nameB e.label = true ∧ 0 ≤ e.to ∧ e.to ≤ 999) → Ln (tos l) (l.map toLs)
  | [], _ => Ln.nil
  | e :: l, h => by
    obtain ⟨h1, h2, h3⟩ := h e (by simp)
    rw [tos, List.map_cons, show toLs e :: l.map toLs = [toLs e] ++ l.map toLs from rfl]
    refine Ln.append (Ln.three (u := toK) (by unfold GoodB; decide) (name_vis h1) (itoa_good h2 h3) ?_) (tos_ln fun x hx => h x (by simp [hx]))
    show (toW ++ e.label ++ spaceB ++ itoaB e.to ++ nlB).data.toList = _
    simp [toW, toK, spaceB, nlB]
/-- a node that may be written as the i-th -/
def NodeW (i : Nat) (x : Node) : Prop := (i ≠ 0 → nameB x.name = true ∧ verOk x.ver = true) ∧ (i = 0 → x.name = ⟨#[]⟩ ∧ x.ver = ⟨0, 0, 0⟩ ∧ x.ctx = []) ∧ (∀ q ∈ x.ctx, nameB q.name = true ∧ verOk q.ver = true) ∧ (∀ e ∈ x.edges, nameB e.label = true ∧ 1 ≤ e.to ∧ e.to ≤ 127)
theorem nodeW_of {many i : Nat} {x : Node} (hm : many ≤ 128) (h1 : headOk i x = true) (h2 : nodeOk many x = true) : NodeW i x := by
  unfold headOk at h1
  unfold nodeOk at h2
  simp only [Bool.and_eq_true] at h2
  obtain ⟨⟨⟨hp, he⟩, hv⟩, ht⟩ := h2
  unfold risesB at hp he
  rw [Bool.and_eq_true] at hp he
  refine ⟨fun hi => ?_, fun hi => ?_, fun q hq => ⟨risesGo_names hp.1 _ (List.mem_map.2 ⟨q, hq, rfl⟩), List.all_eq_true.1 hv q hq⟩, fun e he' => ⟨risesGo_names he.1 _ (List.mem_map.2 ⟨e, he', rfl⟩), ?_⟩⟩
  · rw [if_neg hi, Bool.and_eq_true] at h1
    exact h1
  · rw [if_pos hi] at h1
    simp only [Bool.and_eq_true, decide_eq_true_eq, beq_iff_eq, zeroV] at h1
    obtain ⟨a1, ⟨a2, a3, a4⟩, a5⟩ := h1
    refine ⟨?_, ?_, List.eq_nil_of_length_eq_zero a5⟩
    · rw [Go.ByteArray.toList_eq] at a1
      exact data_inj a1
    · cases hx : x.ver
      rw [hx] at a2 a3 a4
      simp only at a2 a3 a4
      rw [a2, a3, a4]
  · have := List.all_eq_true.1 ht e he'
    simp only [Bool.and_eq_true, decide_eq_true_eq] at this
    omega
theorem lockGo_at : ∀ {l : List Node} {many i : Nat}, lockGo many i l = true → ∀ j x, l[j]? = some x → headOk (i + j) x = true ∧ nodeOk many x = true
  | [], _, _, _, j, x, hx => by cases hx
  | y :: l, many, i, h, 0, x, hx => by
    rw [lockGo, Bool.and_eq_true, Bool.and_eq_true] at h
    cases hx
    exact h.1
  | y :: l, many, i, h, j + 1, x, hx => by
    rw [lockGo, Bool.and_eq_true] at h
    have := lockGo_at h.2 j x hx
    rwa [show i + 1 + j = i + (j + 1) from by omega] at this
theorem lockB_at {l : List Node} (h : lockB l = true) : ∀ j x, l[j]? = some x → NodeW j x := fun j x hx => by
  unfold lockB at h
  simp only [Bool.and_eq_true, decide_eq_true_eq] at h
  obtain ⟨h1, h2⟩ := lockGo_at h.2 j x hx
  rw [Nat.zero_add] at h1
  exact nodeW_of h.1.2 h1 h2
theorem nodeT_ln {i : Nat} {x : Node} (h : NodeW i x) : Ln (nodeT i x) (nodeLs i x) := by
  unfold nodeT nodeLs
  rw [show headLs i x :: (x.ctx.map withLs ++ x.edges.map toLs) = ([headLs i x] ++ x.ctx.map withLs) ++ x.edges.map toLs from by simp]
  refine Ln.append (Ln.append ?_ (withs_ln h.2.2.1)) (tos_ln fun e he => ⟨(h.2.2.2 e he).1, by have := (h.2.2.2 e he).2; omega, by have := (h.2.2.2 e he).2; omega⟩)
  unfold nodeL headLs
  by_cases hi : i = 0
  · rw [if_pos hi, if_pos hi]
    exact Ln.one (by unfold GoodB; decide) (by decide +kernel)
  · rw [if_neg hi, if_neg hi]
    obtain ⟨h1, h2⟩ := h.1 hi
    refine Ln.three (u := nodeK) (by unfold GoodB; decide) (name_vis h1) (txt_vis h2) ?_
    show (nodeW ++ x.name ++ spaceB ++ x.ver.txt ++ nlB).data.toList = _
    simp [nodeW, nodeK, spaceB, nlB]
theorem nodesT_ln : ∀ {l : List Node} {i : Nat}, (∀ j x, l[j]? = some x → NodeW (i + j) x) → Ln (nodesT i l) (nodesLs i l)
  | [], _, _ => Ln.nil
  | x :: l, i, h => by
    rw [nodesT, nodesLs]
    exact Ln.append (nodeT_ln (show NodeW i x from h 0 x rfl)) (nodesT_ln fun j y hy => by
      have := h (j + 1) y hy
      rwa [show i + (j + 1) = i + 1 + j from by omega] at this)
theorem lockText_ln {l : List Node} (h : lockB l = true) : Ln (lockText l) (lockLs l) := by
  unfold lockText lockLs
  rw [show [lockK0] :: nodesLs 0 l = [[lockK0]] ++ nodesLs 0 l from rfl]
  exact Ln.append (Ln.one (by unfold GoodB; decide) (by decide +kernel)) (nodesT_ln fun j x hx => by rw [Nat.zero_add]; exact lockB_at h j x hx)

/-! ### what the lines tell -/
def node0 : Node := ⟨⟨#[]⟩, ⟨0, 0, 0⟩, [], []⟩
def onLast (f : Node → Node) : List Node → List Node
  | [] => []
  | [x] => [f x]
  | x :: y :: l => x :: onLast f (y :: l)
theorem onLast_snoc (f : Node → Node) : ∀ (l : List Node) (x : Node), onLast f (l ++ [x]) = l ++ [f x]
  | [], x => rfl
  | [y], x => rfl
  | y :: z :: l, x => by
    show y :: onLast f ((z :: l) ++ [x]) = _
    rw [onLast_snoc f (z :: l) x]
    rfl
noncomputable def numQ (s : ByteArray) : Option Int := match Lib.atoiAll s.data.toList with
  | .ok n => if 0 ≤ n ∧ n ≤ 128 ∧ itoaB n = s then some n else none
  | _ => none
theorem numQ_itoa {n : Int} (h0 : 0 ≤ n) (h1 : n ≤ 128) : numQ (itoaB n) = some n := by
  unfold numQ
  rw [(itoa_read h0 (by omega)).1]
  exact if_pos ⟨h0, h1, rfl⟩
def verZ : Ver := ⟨0, 0, 0⟩
noncomputable def addPin (b c : ByteArray) (x : Node) : Node := { x with ctx := x.ctx ++ [⟨b, (vparse c).getD verZ⟩] }
noncomputable def addEdge (b c : ByteArray) (x : Node) : Node := { x with edges := x.edges ++ [⟨b, (numQ c).getD 0⟩] }
noncomputable def docStep (l : List Node) : List ByteArray → Option (List Node)
  | [] => some l
  | a :: r => if a = rootK then some (l ++ [node0]) else match r with
    | [b, c] => some (if a = nodeK then l ++ [⟨b, (vparse c).getD verZ, [], []⟩] else if a = withK then onLast (addPin b c) l else onLast (addEdge b c) l)
    | _ => none
noncomputable def docGo : List (List ByteArray) → List Node → Option (List Node)
  | [], l => some l
  | w :: ws, l => match docStep l w with
    | none => none
    | some l' => docGo ws l'
theorem docStep_three (l : List Node) (a b c : ByteArray) : docStep l [a, b, c] = if a = rootK then some (l ++ [node0]) else some (if a = nodeK then l ++ [⟨b, (vparse c).getD verZ, [], []⟩] else if a = withK then onLast (addPin b c) l else onLast (addEdge b c) l) := rfl
theorem docGo_append : ∀ (a b : List (List ByteArray)) (l : List Node), docGo (a ++ b) l = match docGo a l with
    | none => none
    | some l' => docGo b l'
  | [], b, l => rfl
  | w :: a, b, l => by
    rw [List.cons_append, docGo, docGo]
    cases docStep l w with
    | none => rfl
    | some l' => exact docGo_append a b l'
theorem docGo_withs : ∀ (qs : List Pin) (pre : List Node) (x : Node), (∀ q ∈ qs, verOk q.ver = true) → docGo (qs.map withLs) (pre ++ [x]) = some (pre ++ [{ x with ctx := x.ctx ++ qs }])
  | [], pre, x, _ => by
    rw [List.map_nil, docGo, List.append_nil]
  | q :: qs, pre, x, h => by
    have hs : docStep (pre ++ [x]) (withLs q) = some (pre ++ [{ x with ctx := x.ctx ++ [q] }]) := by
      unfold withLs
      rw [docStep_three, if_neg (by decide), if_neg (by decide), if_pos rfl, onLast_snoc]
      unfold addPin
      rw [vparse_some (v := q.ver) (h q (by simp)) rfl]
      rfl
    rw [List.map_cons, docGo, hs]
    simp only
    rw [docGo_withs qs pre _ fun y hy => h y (by simp [hy])]
    simp
theorem docGo_tos : ∀ (es : List Edge) (pre : List Node) (x : Node), (∀ e ∈ es, 1 ≤ e.to ∧ e.to ≤ 127) → docGo (es.map toLs) (pre ++ [x]) = some (pre ++ [{ x with edges := x.edges ++ es }])
  | [], pre, x, _ => by
    rw [List.map_nil, docGo, List.append_nil]
  | e :: es, pre, x, h => by
    have hs : docStep (pre ++ [x]) (toLs e) = some (pre ++ [{ x with edges := x.edges ++ [e] }]) := by
      unfold toLs
      rw [docStep_three, if_neg (by decide), if_neg (by decide), if_neg (by decide), onLast_snoc]
      unfold addEdge
      have := h e (by simp)
      rw [numQ_itoa (by omega) (by omega)]
      rfl
    rw [List.map_cons, docGo, hs]
    simp only
    rw [docGo_tos es pre _ fun y hy => h y (by simp [hy])]
    simp
theorem docGo_node {i : Nat} {x : Node} (h : NodeW i x) (pre : List Node) : docGo (nodeLs i x) pre = some (pre ++ [x]) := by
  have hh : docStep pre (headLs i x) = some (pre ++ [⟨x.name, x.ver, [], []⟩]) := by
    unfold headLs
    by_cases hi : i = 0
    · rw [if_pos hi]
      obtain ⟨h1, h2, _⟩ := h.2.1 hi
      rw [h1, h2]
      rfl
    · rw [if_neg hi]
      rw [docStep_three, if_neg (by decide), if_pos rfl, vparse_some (v := x.ver) (h.1 hi).2 rfl]
      rfl
  rw [nodeLs, docGo, hh]
  simp only
  rw [docGo_append, docGo_withs x.ctx pre _ fun q hq => (h.2.2.1 q hq).2]
  simp only
  rw [docGo_tos x.edges pre _ fun e he => (h.2.2.2 e he).2]
  cases x
  simp
theorem docGo_nodes : ∀ {l : List Node} {i : Nat}, (∀ j x, l[j]? = some x → NodeW (i + j) x) → ∀ pre, docGo (nodesLs i l) pre = some (pre ++ l)
  | [], _, _, pre => by rw [nodesLs, docGo, List.append_nil]
  | x :: l, i, h, pre => by
    rw [nodesLs, docGo_append, docGo_node (show NodeW i x from h 0 x rfl)]
    simp only
    rw [docGo_nodes (l := l) (i := i + 1) fun j y hy => by
      have := h (j + 1) y hy
      rwa [show i + (j + 1) = i + 1 + j from by omega] at this]
    simp
theorem lockLs_read {l : List Node} (h : lockB l = true) : docGo (lockLs l).tail [] = some l := by
  show docGo (nodesLs 0 l) [] = _
  rw [docGo_nodes fun j x hx => by rw [Nat.zero_add]; exact lockB_at h j x hx]
  rfl
theorem lockText_inj {a b : List Node} (ha : lockB a = true) (hb : lockB b = true) (h : lockText a = lockText b) : a = b := by
  have h1 := (lockText_ln ha).done
  have h2 := (lockText_ln hb).done
  rw [h, h2] at h1
  have h3 := lockLs_read ha
  rw [← Option.some.inj h1, lockLs_read hb] at h3
  exact (Option.some.inj h3).symm
end Go.Proofs.YthbnmehbhpakaaaGreatDoor
set_option autoImplicit false
set_option relaxedAutoImplicit false
set_option linter.unusedVariables false
set_option linter.unusedSimpArgs false
namespace Go.Proofs.YthbnmehbhpakaaaGreatDoor
open Go

/-! ### a tree's map asks paths and packages alone -/
def bare (d : Dir) : Dir := { d with node := 0 }
theorem firstGo_bare {q : Dir → Bool} (h : ∀ d, q (bare d) = q d) : ∀ (l : List Dir) (k : Nat), firstGo q (l.map bare) k = firstGo q l k
  | [], k => rfl
  | d :: l, k => by rw [List.map_cons, firstGo, firstGo, h, firstGo_bare h l]
theorem findI_bare (t : List Dir) (p : List ByteArray) : findI (t.map bare) p = findI t p := firstGo_bare (fun d => rfl) t 0
theorem lookDown_bare (t : List Dir) (p : List ByteArray) (s : ByteArray) : ∀ q, lookDown (t.map bare) p s q = lookDown t p s q
  | 0 => rfl
  | q + 1 => by rw [lookDown, lookDown, findI_bare, lookDown_bare t p s q]
theorem lookI_bare (t : List Dir) (i : Int) (s : ByteArray) : lookI (t.map bare) i s = lookI t i s := by
  unfold lookI
  by_cases h : 0 ≤ i ∧ i.toNat < t.length
  · rw [dif_pos h, dif_pos (by rw [List.length_map]; exact h)]
    have e : ((t.map bare)[i.toNat]'(by rw [List.length_map]; exact h.2)).path = (t[i.toNat]'h.2).path := by rw [List.getElem_map]; rfl
    rw [e, lookDown_bare]
  · rw [dif_neg h, dif_neg (by rw [List.length_map]; exact h)]
theorem packIs_bare (t : List Dir) (g : List Node) (q e : Nat) : packIs (t.map bare) g q e = packIs t g q e := by
  unfold packIs
  rw [List.getElem?_map]
  cases t[q]? with
  | none => rfl
  | some d => cases g[e]? <;> rfl
theorem mapEdge_bare (t : List Dir) (g : List Node) (a : Nat) (s : MSt) (e : Edge) : mapEdge (t.map bare) g a s e = mapEdge t g a s e := by
  unfold mapEdge
  rw [lookI_bare, packIs_bare]
theorem mapEdges_bare (t : List Dir) (g : List Node) (a : Nat) : ∀ (es : List Edge) (s : MSt), mapEdges (t.map bare) g a es s = mapEdges t g a es s
  | [], s => rfl
  | e :: es, s => by
    rw [mapEdges, mapEdges, mapEdge_bare]
    cases mapEdge t g a s e with
    | none => rfl
    | some s' => exact mapEdges_bare t g a es s'
theorem mapLoop_bare (t : List Dir) (g : List Node) : ∀ (f : Nat) (s : MSt), mapLoop (t.map bare) g f s = mapLoop t g f s
  | 0, _ => by rw [mapLoop, mapLoop]
  | f + 1, (m, []) => by rw [mapLoop, mapLoop]
  | f + 1, (m, a :: rest) => by
    rw [mapLoop, mapLoop, mapEdges_bare]
    cases mapEdges t g a (edgesOf g (m.getD a 0)) (m, rest) with
    | none => rfl
    | some s => exact mapLoop_bare t g f s
theorem mapLoop_same {t u : List Dir} (h : t.map bare = u.map bare) (g : List Node) (f : Nat) (s : MSt) : mapLoop t g f s = mapLoop u g f s := by
  rw [← mapLoop_bare t, h, mapLoop_bare]

/-! ### what placed says -/
theorem placedGo_all {t : List Dir} {m : List Int} : ∀ {l : List Dir} {k : Nat}, placedGo t m k l = true → ∀ j d, l[j]? = some d → placedAt t m (k + j) d = true
  | [], _, _, j, d, h => by cases h
  | x :: l, k, h, 0, d, hd => by
    cases hd
    rw [placedGo, Bool.and_eq_true] at h
    exact h.1
  | x :: l, k, h, j + 1, d, hd => by
    rw [placedGo, Bool.and_eq_true] at h
    have := placedGo_all h.2 j d hd
    rwa [show k + 1 + j = k + (j + 1) from by omega] at this
theorem mapR_loop {t : List Dir} {g : List Node} (h : (mapR t g).2 = 0) : mapLoop t g (t.length + 1) (map0 t.length) = (mapR t g).1 := by
  unfold mapR at h ⊢
  by_cases h1 : checkE t ≠ 0
  · rw [if_pos h1] at h; cases h
  rw [if_neg h1] at h ⊢
  by_cases h2 : formedB g = false
  · rw [if_pos h2] at h; cases h
  rw [if_neg h2] at h ⊢
  cases hm : mapLoop t g (t.length + 1) (map0 t.length) with
  | none => rfl
  | some m => rfl
theorem placed_at {s : Proj} (h : mayI s = true) : ∃ m, mapLoop s.dirs s.nodes (s.dirs.length + 1) (map0 s.dirs.length) = some m ∧
    ∀ i d, s.dirs[i]? = some d → m.getD i 0 = d.node ∧ (i = 0 ∨ lessB (textB (s.dirs.getD (i - 1) d).path) (textB d.path) = true) := by
  unfold mayI placedB at h
  simp only [Bool.and_eq_true, decide_eq_true_eq] at h
  obtain ⟨_, _, h1, h2⟩ := h
  obtain ⟨_, _, m, hm, _⟩ := mapR_ok h1
  rw [hm, Option.getD_some] at h2
  refine ⟨m, (mapR_loop h1).trans hm, fun i d hd => ?_⟩
  have := placedGo_all h2 i d hd
  rw [Nat.zero_add] at this
  unfold placedAt at this
  simpa using this
def risF (x y : Dir) : Prop := lessB (textB x.path) (textB y.path) = true
theorem rises_dirs {t : List Dir} (h : ∀ i d, t[i]? = some d → i = 0 ∨ lessB (textB (t.getD (i - 1) d).path) (textB d.path) = true) : t.Pairwise risF := by
  have key : ∀ (n i : Nat) (hi : i < t.length) (hj : i + (n + 1) < t.length), risF t[i] t[i + (n + 1)] := by
    intro n
    induction n with
    | zero =>
      intro i hi hj
      rcases h (i + 1) _ (List.getElem?_eq_getElem hj) with e | e
      · omega
      · rw [Nat.add_sub_cancel, List.getD_eq_getElem?_getD, List.getElem?_eq_getElem hi, Option.getD_some] at e
        exact e
    | succ n ih =>
      intro i hi hj
      have h1 := ih i hi (by omega)
      rcases h (i + (n + 1) + 1) _ (List.getElem?_eq_getElem hj) with e | e
      · omega
      · rw [Nat.add_sub_cancel, List.getD_eq_getElem?_getD, List.getElem?_eq_getElem (by omega), Option.getD_some] at e
        exact lessB_trans h1 e
  refine List.pairwise_iff_getElem.2 fun i j hi hj hij => ?_
  obtain ⟨n, rfl⟩ : ∃ n, j = i + (n + 1) := ⟨j - i - 1, by omega⟩
  exact key n i hi hj
theorem placed_rises {s : Proj} (h : mayI s = true) : s.dirs.Pairwise risF := by
  obtain ⟨m, _, h2⟩ := placed_at h
  exact rises_dirs fun i d hd => (h2 i d hd).2
theorem risF_ne {x y : Dir} (h : risF x y) : bare x ≠ bare y := fun e => by
  have e2 : x.path = y.path := show (bare x).path = (bare y).path by rw [e]
  unfold risF at h
  rw [e2, lessB_irrefl] at h
  cases h
theorem bare_lists {t u : List Dir} (ht : t.Pairwise risF) (hu : u.Pairwise risF) (h1 : ∀ d ∈ t, ∃ e ∈ u, bare d = bare e) (h2 : ∀ e ∈ u, ∃ d ∈ t, bare e = bare d) : t.map bare = u.map bare := by
  have pt : (t.map bare).Pairwise risF := List.pairwise_map.2 ht
  have pu : (u.map bare).Pairwise risF := List.pairwise_map.2 hu
  have nd : ∀ {l : List Dir}, l.Pairwise risF → (l.map bare).Nodup := fun h => by
    rw [List.nodup_iff_pairwise_ne, List.pairwise_map]
    exact h.imp fun h => risF_ne h
  refine List.Perm.eq_of_pairwise (le := risF) (fun x y _ _ hx hy => ?_) pt pu ((List.perm_ext_iff_of_nodup (nd ht) (nd hu)).2 fun x => ?_)
  · have := lessB_trans hx hy
    rw [lessB_irrefl] at this
    cases this
  · rw [List.mem_map, List.mem_map]
    constructor
    · rintro ⟨d, hd, rfl⟩
      obtain ⟨e, he, h⟩ := h1 d hd
      exact ⟨e, he, h.symm⟩
    · rintro ⟨d, hd, rfl⟩
      obtain ⟨e, he, h⟩ := h2 d hd
      exact ⟨e, he, h.symm⟩

/-! ### the root, and the empty project -/
theorem root_is {t : List Dir} (h : checkE t = 0) {d : Dir} (hd : t[0]? = some d) : d = ⟨[], zeroPack, 0⟩ := by
  have h1 := checkE_ok h
  match t, hd, h1 with
  | x :: l, hd, h1 =>
    have hxd : x = d := Option.some.inj hd
    subst hxd
    rw [okGo, Bool.and_eq_true] at h1
    have h2 : rootB x = true := h1.1
    unfold rootB at h2
    simp only [Bool.and_eq_true, decide_eq_true_eq] at h2
    obtain ⟨a1, a2, a3⟩ := h2
    obtain ⟨p, k, n⟩ := x
    simp only at a1 a2 a3
    rw [List.eq_nil_of_length_eq_zero a1, eqB_iff.1 a2, a3]
theorem mayI_lock {s : Proj} (h : mayI s = true) : lockB s.nodes = true := by
  unfold mayI at h
  simp only [Bool.and_eq_true] at h
  exact h.2.1
theorem mayI_man {s : Proj} (h : mayI s = true) : maniB s.man = true := by
  unfold mayI at h
  simp only [Bool.and_eq_true] at h
  exact h.1
theorem lock_one {x : Node} (h : lockB [x] = true) : x = node0 := by
  unfold lockB at h
  simp only [Bool.and_eq_true, decide_eq_true_eq] at h
  obtain ⟨h1, h2⟩ := lockGo_at h.2 0 x rfl
  have h3 := nodeW_of (many := 1) (by decide) h1 h2
  obtain ⟨e1, e2, e3⟩ := h3.2.1 rfl
  have e4 : x.edges = [] := by
    cases he : x.edges with
    | nil => rfl
    | cons y l =>
      unfold nodeOk at h2
      simp only [Bool.and_eq_true] at h2
      have := List.all_eq_true.1 h2.2 y (by rw [he]; simp)
      simp only [List.length_singleton, Bool.and_eq_true, decide_eq_true_eq] at this
      omega
  obtain ⟨a, b, c, d⟩ := x
  simp only at e1 e2 e3 e4
  rw [e1, e2, e3, e4]
  rfl
theorem emptyQ_is {s : Proj} (h : mayI s = true) (he : emptyQ s = true) : s = ⟨man0, [node0], [⟨[], zeroPack, 0⟩], false⟩ := by
  have hc := mayI_check h
  have hl := mayI_lock h
  unfold emptyQ at he
  simp only [Bool.and_eq_true, decide_eq_true_eq, Bool.not_eq_true'] at he
  obtain ⟨h1, h2, h3, h4⟩ := he
  obtain ⟨x, hx⟩ := List.length_eq_one_iff.1 h2
  obtain ⟨d, hd⟩ := List.length_eq_one_iff.1 h3
  rw [hx] at hl
  have h5 := root_is hc (d := d) (by rw [hd]; rfl)
  have h6 := lock_one hl
  obtain ⟨a, b, c, p⟩ := s
  simp only at h1 hx hd h4
  rw [eqB_iff.1 h1, hx, hd, h4, h5, h6]

/-! ### from files to what they are of -/
theorem in_man (s : Proj) : (⟨manF, false, maniText s.man⟩ : File) ∈ imgU s := by unfold imgU; simp
theorem in_lok (s : Proj) : (⟨lokF, false, lockText s.nodes⟩ : File) ∈ imgU s := by unfold imgU; simp
theorem in_pru {s : Proj} (h : s.pruned = true) : (⟨pruF, false, emB⟩ : File) ∈ imgU s := by unfold imgU; rw [if_pos h]; simp
theorem dirs_in {a b : Proj} (ha : mayI a = true) (hb : mayI b = true) (h : ∀ f, f ∈ imgU a → f ∈ imgU b) : ∀ d ∈ a.dirs, ∃ e ∈ b.dirs, bare d = bare e := by
  intro d hd
  obtain ⟨j, hj, rfl⟩ := List.getElem_of_mem hd
  have hca := mayI_check ha
  have hcb := mayI_check hb
  by_cases h0 : j = 0
  · subst h0
    have hz := (dirs_len hcb).1
    refine ⟨b.dirs[0], List.getElem_mem _, ?_⟩
    rw [root_is hca (List.getElem?_eq_getElem hj), root_is hcb (List.getElem?_eq_getElem hz)]
  · have hja := List.getElem?_eq_getElem hj
    have hK := dirK_of hca j _ hja
    have hp0 : a.dirs[j].path ≠ [] := fun e => h0 (hK.2.2 e)
    obtain ⟨_, h2⟩ := imgU_dir (dirK_of hca) hja h0
    have h3 := h _ h2
    have hcl : noSl (segs a.dirs[j].path ++ [pkgK]) := fun s hs => by
      rcases List.mem_append.1 hs with hs | hs
      · exact segs_clean hK.1 s hs
      · rw [List.mem_singleton.1 hs]; decide
    have hz := segs_len a.dirs[j].path
    rcases imgU_cases (dirK_of hcb) h3 with ⟨x, hx, hp, _⟩ | ⟨i, e, hi, hc⟩
    · exfalso
      have hxc : noSl [x] := fun s hs => by
        rw [List.mem_singleton.1 hs]
        rcases hx with rfl | rfl | rfl <;> decide
      have h4 := congrArg List.length (mkP_inj hcl hxc hp)
      rw [List.length_append, List.length_singleton, List.length_singleton] at h4
      have : a.dirs[j].path.length = 0 := by omega
      exact hp0 (List.eq_nil_of_length_eq_zero this)
    · rcases hc with ⟨_, _, hdir, _⟩ | ⟨hi0, hp, _⟩ | ⟨_, _, hdir, _⟩
      · cases hdir
      · have hKe := dirK_of hcb i e hi
        have hcl2 : noSl (segs e.path ++ [pkgK]) := fun s hs => by
          rcases List.mem_append.1 hs with hs | hs
          · exact segs_clean hKe.1 s hs
          · rw [List.mem_singleton.1 hs]; decide
        have h4 := mkP_inj hcl hcl2 hp
        have h5 : a.dirs[j].path = e.path := segs_inj (List.append_cancel_right h4)
        obtain ⟨_, h6⟩ := imgU_dir (dirK_of hcb) hi hi0
        have h7 := nodup_path (imgU_apart hb) h3 h6 (by show mkP _ = mkP _; rw [h5])
        have h8 : packText a.dirs[j].pack = packText e.pack := congrArg File.data h7
        have p1 := (dir_pack hca hja (by omega)).1
        have p2 := (dir_pack hcb hi (by omega)).1
        have h9 := (packText_inj p1 p2).1 h8
        refine ⟨e, List.mem_of_getElem? hi, ?_⟩
        unfold bare
        rw [h5, h9]
      · cases hdir
theorem imgF_full {s : Proj} (h : mayI s = true) (he : ¬ emptyQ s = true) : (imgF s).1 = sortS (imgU s) := by unfold imgF; rw [if_pos h, if_neg he]
theorem imgF_none {s : Proj} (h : mayI s = true) (he : emptyQ s = true) : (imgF s).1 = [] := by unfold imgF; rw [if_pos h, if_pos he]
theorem sortS_two (s : Proj) : sortS (imgU s) ≠ [] := fun e => by
  have h1 := (sortS_perm (imgU s)).length_eq
  have h2 := (imgU_len s).1
  rw [e, List.length_nil] at h1
  omega
theorem imgOne {a b : Proj} (ha : mayI a = true) (hb : mayI b = true) (h : (imgF a).1 = (imgF b).1) : a = b := by
  by_cases ea : emptyQ a = true <;> by_cases eb : emptyQ b = true
  · rw [emptyQ_is ha ea, emptyQ_is hb eb]
  · rw [imgF_none ha ea, imgF_full hb eb] at h
    exact absurd h.symm (sortS_two b)
  · rw [imgF_full ha ea, imgF_none hb eb] at h
    exact absurd h (sortS_two a)
  rw [imgF_full ha ea, imgF_full hb eb] at h
  have hm : ∀ f, f ∈ imgU a ↔ f ∈ imgU b := fun f => by rw [← (sortS_perm (imgU a)).mem_iff, h, (sortS_perm (imgU b)).mem_iff]
  have e1 : a.man = b.man := by
    have := nodup_path (imgU_apart hb) ((hm _).1 (in_man a)) (in_man b) rfl
    exact (maniText_inj (mayI_man ha) (mayI_man hb)).1 (congrArg File.data this)
  have e2 : a.nodes = b.nodes := by
    have := nodup_path (imgU_apart hb) ((hm _).1 (in_lok a)) (in_lok b) rfl
    exact lockText_inj (mayI_lock ha) (mayI_lock hb) (congrArg File.data this)
  have e3 : a.pruned = b.pruned := by
    have h1 : a.pruned = true → b.pruned = true := fun e => imgU_pru (dirK_of (mayI_check hb)) ((hm _).1 (in_pru e)) rfl
    have h2 : b.pruned = true → a.pruned = true := fun e => imgU_pru (dirK_of (mayI_check ha)) ((hm _).2 (in_pru e)) rfl
    cases h3 : a.pruned <;> cases h4 : b.pruned <;> simp_all
  have e4 : a.dirs.map bare = b.dirs.map bare := bare_lists (placed_rises ha) (placed_rises hb) (dirs_in ha hb fun f => (hm f).1) (dirs_in hb ha fun f => (hm f).2)
  have e5 : a.dirs = b.dirs := by
    obtain ⟨m, hm1, hn1⟩ := placed_at ha
    obtain ⟨n, hm2, hn2⟩ := placed_at hb
    have hl : a.dirs.length = b.dirs.length := by have := congrArg List.length e4; simpa using this
    rw [mapLoop_same e4, e2, hl, hm2] at hm1
    obtain rfl := Option.some.inj hm1
    refine List.ext_getElem hl fun i h1 h2 => ?_
    have g1 := (hn1 i _ (List.getElem?_eq_getElem h1)).1
    have g2 := (hn2 i _ (List.getElem?_eq_getElem h2)).1
    have g3 : bare a.dirs[i] = bare b.dirs[i] := by
      have g := congrArg (fun l : List Dir => l[i]?) e4
      simp only [List.getElem?_map, List.getElem?_eq_getElem h1, List.getElem?_eq_getElem h2, Option.map_some, Option.some.injEq] at g
      exact g
    have g4 : a.dirs[i].node = b.dirs[i].node := g1.symm.trans g2
    have g5 : a.dirs[i].path = b.dirs[i].path := show (bare a.dirs[i]).path = (bare b.dirs[i]).path by rw [g3]
    have g6 : a.dirs[i].pack = b.dirs[i].pack := show (bare a.dirs[i]).pack = (bare b.dirs[i]).pack by rw [g3]
    generalize a.dirs[i] = x at *
    generalize b.dirs[i] = y at *
    obtain ⟨x1, x2, x3⟩ := x
    obtain ⟨y1, y2, y3⟩ := y
    simp only at g4 g5 g6
    rw [g4, g5, g6]
  obtain ⟨a1, a2, a3, a4⟩ := a
  obtain ⟨b1, b2, b3, b4⟩ := b
  simp only at e1 e2 e3 e5
  rw [e1, e2, e3, e5]
end Go.Proofs.YthbnmehbhpakaaaGreatDoor
