/-
  The library's search for a text in a list (slices.Index); bounds of a text's lines; a list of lines, one line more.
  Lists of the call's own in the cells of one block: what a line more leaves of them.
  What a reader of packages answers, case by case, in plain words; a package's value whose lists are the reader's own.
-/
import Derived.Test.YtldjldkejjeamaaGreatDoorKnowP
import Derived.Test.YtldjldkejjeamaaGreatDoorQuietB
import Derived.Test.YtldjldkejjeamaaGreatDoorSame
import Derived.WalkKit
import Derived.WalkSpells
import Derived.IntWalk
import Derived.Lib.Hide
import Derived.Test.YtldjldkejjeamaaGreatDoorSpanH
import Derived.Test.YtldjldkejjeamaaGreatDoorDataO
import Derived.Test.YtldjldkejjeamaaGreatDoorVParse
import Derived.Test.YtldjldkejjeamaaGreatDoorRange
set_option autoImplicit false
set_option relaxedAutoImplicit false
set_option linter.unusedVariables false
set_option linter.unusedSimpArgs false
namespace Go.Proofs.YtldjldkejjeamaaGreatDoor
open Go.Rows Go.RowKit Go.Shelf Go.Sort

def idxI (l : List ByteArray) (x : ByteArray) : Int := match idxGo l x with
  | none => -1
  | some k => (k : Int)
theorem idxGo_hit {l : List ByteArray} {x : ByteArray} {k : Nat} (hk : k < l.length) (h : l[k] = x) : idxGo (l.drop k) x = some 0 := by
  rw [List.drop_eq_getElem_cons hk]
  unfold idxGo
  rw [if_pos (by rw [h])]
theorem idxGo_miss {l : List ByteArray} {x : ByteArray} {k : Nat} (hk : k < l.length) (h : l[k] ≠ x) : idxGo (l.drop k) x = (idxGo (l.drop (k + 1)) x).map (· + 1) := by
  rw [List.drop_eq_getElem_cons hk]
  conv => lhs; unfold idxGo
  rw [if_neg (fun e => h (data_inj e))]
theorem idxGo_lt : ∀ {l : List ByteArray} {x : ByteArray} {k : Nat}, idxGo l x = some k → k < l.length := by
  intro l
  induction l with
  | nil => intro x k h; cases h
  | cons y l ih =>
    intro x k h
    unfold idxGo at h
    split at h
    · cases h; simp
    · cases hg : idxGo l x with
      | none => rw [hg] at h; cases h
      | some j =>
        rw [hg] at h
        simp only [Option.map_some, Option.some.injEq] at h
        have := ih hg
        simp; omega

set_option maxHeartbeats 1600000 in
set_option maxRecDepth 100000 in
theorem slIndex_any (A : Option Addr) (n c : Nat) (l : List ByteArray) (x : ByteArray) (w : World) (S : Nat → Prop) (hl : SlV rStr w S l (.slice A n c)) :
    Calls Tryz.prog 49 #[.slice A n c, .string x] w fun e w' => e = .returned (.int .i64 (idxI l x)) ∧ Below w.heap.size w w' := by
  have hnx := hl.n_eq
  have hcc := hl.cap_le
  unfold maxLen at hcc
  have hn63 : n ≤ 9223372036854775807 := by omega
  have Hnx := Lib.hid hnx; clear hnx hcc
  obtain ⟨R, hR⟩ : ∃ R, R = idxI l x := ⟨_, rfl⟩
  have HR0 : Hid (∀ k, idxGo l x = (idxGo (l.drop k) x).map (· + k) → ∀ q, idxGo (l.drop k) x = q → R = match q with | none => (-1 : Int) | some j => ((j + k : Nat) : Int)) := by
    intro k h q hq
    rw [hR]
    unfold idxI
    rw [h, hq]
    cases q <;> rfl
  rw [← hR]
  clear hR
  go_enter Tryz.func49, Tryz.ntmps49
  go_wp2_with fail
  go_loop [8] (fun i => ∃ k : Nat, k ≤ n ∧ i = .int .i64 k ∧ Hid (idxGo l x = (idxGo (l.drop k) x).map (· + k))) (fun i => n - (intOf i).toNat)
  case atStart => exact ⟨0, Nat.zero_le _, rfl, by unfold Hid; simp⟩
  case round =>
    obtain ⟨k, hk, rfl, hidx⟩ := hrel
    by_cases hlt : k < n
    · have hkx : k < l.length := by have := Hnx.out; omega
      obtain ⟨b, o, cs, rfl, hSb, hb1, hsp, hcell⟩ := hl.elem (List.getElem?_eq_getElem hkx)
      obtain ⟨rfl, hsz⟩ := hsp
      have hc0 := hcell 0 _ rfl
      simp only [rStr, Nat.mul_one, Nat.add_zero] at hc0
      have hkn : (k : Int) < (n : Int) := by omega
      have hk0 : (0 : Int) ≤ (k : Int) := by omega
      have Hhit := Lib.hid (fun h => idxGo_hit (x := x) hkx h)
      have Hmiss := Lib.hid (fun h => idxGo_miss (x := x) hkx h)
      have Hr := Lib.hid (fun q hq => HR0.out k hidx.out q hq)
      clear hcell hsz HR0
      generalize l[k] = s at *
      by_cases he : s = x
      · have hr := Hr.out (some 0) (Hhit.out he)
        simp only [Nat.zero_add] at hr
        have hbe := beq_true he.symm
        subst hr
        have He := Lib.hid he
        clear Hr Hhit Hmiss he hidx hl
        go_wp2_with fail
        go_ret
        exact ⟨rfl, Below.refl _ _⟩
      · have hbe := beq_false (Ne.symm he)
        have hnx := Hmiss.out he
        have Hnext : Hid (idxGo l x = (idxGo (l.drop (k + 1)) x).map (· + (k + 1))) := by
          unfold Hid
          rw [hidx.out, hnx, Option.map_map]
          congr 1
          funext j
          simp; omega
        clear Hr Hhit Hmiss hnx he hidx hl
        go_wp2_with fail
        go_round
        case rel => exact ⟨k + 1, by omega, by go_num, Hnext⟩
        case measure => simp [intOf]; omega
    · have hr := HR0.out k hidx.out none (by rw [List.drop_eq_nil_of_le (by have := Hnx.out; omega)]; rfl)
      simp only at hr
      subst hr
      have hlt' : ¬ (k : Int) < (n : Int) := by omega
      clear HR0 hidx hl
      go_wp2_with fail
      go_ret
      exact ⟨rfl, Below.refl _ _⟩

/-! ### bounds of a text's lines -/
theorem linesG_mem : ∀ (L : List (List UInt8)) (r : List (List (List UInt8))), linesG L = some r → r.length ≤ L.length ∧ ∀ ws ∈ r, ∃ l ∈ L, lineF l = some ws := by
  intro L
  induction L with
  | nil => intro r h; cases h
  | cons l L ih =>
    intro r h
    cases L with
    | nil =>
      unfold linesG at h
      split at h
      · cases h; exact ⟨by simp, fun ws hw => by cases hw⟩
      · cases h
    | cons k L =>
      rw [linesG_cons (by simp)] at h
      cases hf : lineF l with
      | none => rw [hf] at h; cases h
      | some w =>
        rw [hf] at h
        simp only at h
        cases hg : linesG (k :: L) with
        | none => rw [hg] at h; cases h
        | some q =>
          rw [hg] at h
          simp only [Option.map_some, Option.some.injEq] at h
          subst h
          obtain ⟨h1, h2⟩ := ih q hg
          refine ⟨by simp at h1 ⊢; omega, fun ws hw => ?_⟩
          rcases List.mem_cons.1 hw with rfl | hw
          · exact ⟨l, by simp, hf⟩
          · obtain ⟨l', hl', e⟩ := h2 ws hw
            exact ⟨l', by simp [hl'], e⟩
theorem splL_mem_len (b : UInt8) : ∀ (s acc : List UInt8), ∀ x ∈ splL b acc s, x.length ≤ acc.length + s.length := by
  intro s
  induction s with
  | nil => intro acc x hx; rw [splL] at hx; obtain rfl := List.mem_singleton.1 hx; simp
  | cons c s ih =>
    intro acc x hx
    by_cases h : c = b
    · subst h
      rw [splL_hit] at hx
      rcases List.mem_cons.1 hx with rfl | hx
      · simp
      · have := ih [] x hx; simp at this ⊢; omega
    · rw [splL_next h] at hx
      have := ih _ x hx; simp at this ⊢; omega
theorem scan_bounds {most : Nat} {t : ByteArray} : (scanQ most t).1.length ≤ most + 1 ∧ ∀ ws ∈ (scanQ most t).1, ws ≠ [] ∧ ws.length ≤ most + 1 ∧ (joinS ws).size ≤ most := by
  unfold scanQ
  split
  · exact ⟨by simp, fun ws h => by cases h⟩
  · rename_i hz
    unfold linesB linesF
    cases hg : linesG (splL 10 [] t.data.toList) with
    | none => exact ⟨by simp, fun ws h => by cases h⟩
    | some r =>
      simp only [Option.map_some]
      obtain ⟨h1, h2⟩ := linesG_mem _ _ hg
      have h3 := splL_len 10 t.data.toList []
      have hsz : t.data.toList.length ≤ most := by rw [← size_data]; omega
      refine ⟨by rw [List.length_map]; omega, fun ws hw => ?_⟩
      obtain ⟨q, hq, rfl⟩ := List.mem_map.1 hw
      obtain ⟨l, hl, hf⟩ := h2 q hq
      unfold lineF at hf
      split at hf
      · cases hf
        have h4 := splL_mem_len 10 t.data.toList [] l hl
        have h5 := splL_len 32 l []
        simp only [List.length_nil, Nat.zero_add] at h4
        refine ⟨fun e => ?_, by rw [List.length_map]; omega, ?_⟩
        · exact splL_ne 32 [] l (List.map_eq_nil_iff.1 e)
        · have := joinS_split (mkB l)
          rw [mkB_data] at this
          rw [this, size_data, mkB_data]
          omega
      · cases hf

/-! ### a list of lines, one line more -/
def rm (n : Nat) (l : Nat → List Dep) : List (List Dep) := (List.range n).map l
theorem rm_getD {n : Nat} (l : Nat → List Dep) {k : Nat} (h : k < n) : (rm n l).getD k [] = l k := by
  unfold rm
  rw [List.getD_eq_getElem?_getD, List.getElem?_map, List.getElem?_range h]; rfl
theorem lists_none {order : List ByteArray} {n a : Nat} {l : Nat → List Dep} {w : List ByteArray} {ws : List (List ByteArray)} (h : idxGo (order.drop a) (w.headD ⟨#[]⟩) = none) : listsE order (w :: ws) (a, rm n l) = .error 22 := by
  rw [listsE]
  unfold listsStep
  simp only [h]
theorem lists_err {order : List ByteArray} {n a k : Nat} {l : Nat → List Dep} {w : List ByteArray} {ws : List (List ByteArray)} {e : Int} (h : idxGo (order.drop a) (w.headD ⟨#[]⟩) = some k) (hk : a + k < n) (hd : depE (lastN (l (a + k))) w = .error e) : listsE order (w :: ws) (a, rm n l) = .error e := by
  rw [listsE]
  unfold listsStep
  simp only [h, rm_getD l hk, hd]
theorem rm_set {n k : Nat} (l : Nat → List Dep) (h : k < n) (x : List Dep) : (rm n l).set k x = rm n (fun j => if j = k then x else l j) := by
  unfold rm
  apply List.ext_getElem?
  intro i
  rw [List.getElem?_set, List.getElem?_map, List.getElem?_map, List.length_map, List.length_range]
  by_cases e : k = i
  · subst e
    rw [if_pos rfl, if_pos h, List.getElem?_range h, Option.map_some, if_pos rfl]
  · rw [if_neg e]
    by_cases hi : i < n
    · rw [List.getElem?_range hi, Option.map_some, Option.map_some, if_neg (Ne.symm e)]
    · rw [List.getElem?_eq_none (by simpa using hi)]; rfl
theorem lists_ok {order : List ByteArray} {n a k : Nat} {l : Nat → List Dep} {w : List ByteArray} {ws : List (List ByteArray)} {d : Dep} (h : idxGo (order.drop a) (w.headD ⟨#[]⟩) = some k) (hk : a + k < n) (hd : depE (lastN (l (a + k))) w = .ok d) :
    listsE order (w :: ws) (a, rm n l) = listsE order ws (a + k, rm n (fun j => if j = a + k then l (a + k) ++ [d] else l j)) := by
  rw [listsE]
  unfold listsStep
  simp only [h, rm_getD l hk, hd, rm_set l hk]
theorem depE_name {prev : Option ByteArray} {w : List ByteArray} {d : Dep} (h : depE prev w = .ok d) : nameB d.name = true := by
  unfold depE at h
  split at h
  · split at h
    · rename_i hc
      split at h
      · cases h
        simp only [Bool.and_eq_true] at hc
        exact hc.1
      · cases h
    · cases h
  · cases h
end Go.Proofs.YtldjldkejjeamaaGreatDoor
set_option autoImplicit false
set_option relaxedAutoImplicit false
set_option linter.unusedVariables false
set_option linter.unusedSimpArgs false
namespace Go.Proofs.YtldjldkejjeamaaGreatDoor
open Go.Rows Go.RowKit Go.Shelf Go.Sort

/-- a block that may be written into -/
def Live (w : World) (b : Nat) : Prop := ∃ cs t, w.heap[b]? = some (.cells cs t (0, 0))
/-- blocks from B on that may be written into -/
def Fresh (B : Nat) (w : World) (b : Nat) : Prop := B ≤ b ∧ Live w b
theorem live_lt {w : World} {b : Nat} (h : Live w b) : b < w.heap.size := by
  obtain ⟨cs, t, h⟩ := h
  exact (Array.getElem?_eq_some_iff.1 h).1
theorem live_same {w w' : World} {b : Nat} (h : Live w b) (hk : w'.heap[b]? = w.heap[b]?) : Live w' b := by unfold Live; rw [hk]; exact h
theorem fresh_keep {α : Type} {r : Rp α} {w w' : World} {B B0 : Nat} {l : List α} {v : Value} (h : SlV r w (Fresh B w) l v) (hB : B0 ≤ B) (hk : ∀ b, B ≤ b → b < w.heap.size → w'.heap[b]? = w.heap[b]?) : SlV r w' (Fresh B0 w') l v :=
  (rSlice r).mono h fun b hb hl => ⟨⟨Nat.le_trans hB hb.1, by unfold Live; rw [hk b hb.1 hl]; exact hb.2⟩, hk b hb.1 hl⟩
theorem fresh_below {α : Type} {r : Rp α} {w w' : World} {B B0 : Nat} {l : List α} {v : Value} (h : SlV r w (Fresh B w) l v) (hB : B0 ≤ B) (hb : Below w.heap.size w w') : SlV r w' (Fresh B0 w') l v :=
  fresh_keep h hB fun b _ hl => hb.block b hl
theorem fresh_weak {α : Type} {r : Rp α} {w : World} {B : Nat} {l : List α} {v : Value} (h : SlV r w (Fresh B w) l v) : SlV r w (fun b => B ≤ b) l v := h.more fun b hb _ => hb.1
theorem Own.slvF {α : Type} {r : Rp α} {w : World} {base : Nat} {e : TypeId} {v : Value} {l : List α} {S : Nat → Prop} (h : Own r w base e v l S) (hS : ∀ b, S b → Fresh base w b) : SlV r w (Fresh base w) l v := by
  obtain ⟨h0, xs, h1, h2⟩ := h
  have h1' := h1
  rcases h1.2 with ⟨rfl, hn⟩ | ⟨g, cap, cur, rfl, hb, hg, hnc, hcm, hsz, htake⟩
  · have : l = [] := List.eq_nil_of_length_eq_zero hn
    subst this
    exact SlV.nil_ _ _ _
  · refine ⟨some ⟨g, 0, none⟩, cap, rfl, hnc, hcm, (fun h => by cases h), fun _ => ⟨g, 0, rfl, ⟨hb, cur, e, hg⟩, (Array.getElem?_eq_some_iff.1 hg).1, fun i x hx => ?_⟩⟩
    obtain ⟨cs, hc, hcell⟩ := h2.get i x hx
    refine ⟨cs, r.mono hc fun b hb _ => ⟨hS b hb, rfl⟩, fun j u hu => ?_⟩
    have h3 := h1'.cells (g := g) rfl _ u (hcell j u hu)
    have hadd : ∀ k, (⟨g, 0, none⟩ : Addr).add k = ⟨g, k, none⟩ := fun k => by unfold Addr.add; split <;> simp_all
    rw [hadd] at h3
    rw [Nat.zero_add]
    exact h3

/-- one cell more known -/
def upd {α : Type} (f : Nat → α) (k : Nat) (x : α) (j : Nat) : α := if j = k then x else f j
theorem upd_at {α : Type} (f : Nat → α) (k : Nat) (x : α) : upd f k x k = x := if_pos rfl
theorem upd_ne {α : Type} (f : Nat → α) {k j : Nat} (x : α) (h : j ≠ k) : upd f k x j = f j := if_neg h

/-- lists of the call's own, in rows that are apart -/
def PartsIn (n B : Nat) (w : World) (v : Nat → Value) (l : Nat → List Dep) (S : Nat → Prop) : Prop :=
  (∀ j, j < n → Own rDep w B 38 (v j) (l j) S) ∧ (∀ b, S b → Fresh B w b) ∧ (∀ i j g, i < n → j < n → i ≠ j → (v i).ownBlock = some g → (v j).ownBlock ≠ some g)
section
variable {n B : Nat} {w w' : World} {v : Nat → Value} {l : Nat → List Dep} {S : Nat → Prop}
theorem PartsIn.nil (n B : Nat) (w : World) : PartsIn n B w (fun _ => .slice none 0 0) (fun _ => []) (fun _ => False) :=
  ⟨fun _ _ => Own.nil_ _ _ _ _ (fun b hb => hb.elim), fun b hb => hb.elim, fun _ _ _ _ _ _ h => by cases h⟩
theorem PartsIn.keep (h : PartsIn n B w v l S) (hb : Below w.heap.size w w') : PartsIn n B w' v l S :=
  ⟨fun j hj => (h.1 j hj).keep hb, fun b hs => ⟨(h.2.1 b hs).1, live_same (h.2.1 b hs).2 (hb.block b (live_lt (h.2.1 b hs).2))⟩, h.2.2⟩
/-- a write below them -/
theorem PartsIn.at (h : PartsIn n B w v l S) {b : Nat} (hb : b < B) (hg : w.grownBy w' (some b)) : PartsIn n B w' v l S := by
  refine ⟨fun j hj => (h.1 j hj).grown hg ?_ ?_, fun c hs => ⟨(h.2.1 c hs).1, live_same (h.2.1 c hs).2 (hg.block c (live_lt (h.2.1 c hs).2) ?_)⟩, h.2.2⟩
  · cases hv : (v j).ownBlock with
    | none => exact .inl rfl
    | some g => exact .inr fun e => by have := ((h.1 j hj).lt g hv).1; simp only [Option.some.injEq] at e; omega
  · intro c hs e
    cases e
    have := (h.2.1 b hs).1; omega
  · intro e
    cases e
    have := (h.2.1 b hs).1; omega
/-- new blocks may be met too -/
theorem PartsIn.more (h : PartsIn n B w v l S) (hb : Below w.heap.size w w') (hB : B ≤ w.heap.size) : PartsIn n B w' v l (fun b => S b ∨ Fresh w.heap.size w' b) := by
  have hk := h.keep hb
  refine ⟨fun j hj => (hk.1 j hj).more ?_ (fun b hs => .inl hs), ?_, h.2.2⟩
  · rintro b (hs | hs)
    · exact (hk.1 j hj).1 b hs
    · exact ⟨live_lt hs.2, fun e => by have := ((h.1 j hj).lt b e).2; have := hs.1; omega⟩
  · rintro b (hs | hs)
    · exact hk.2.1 b hs
    · exact ⟨Nat.le_trans hB hs.1, hs.2⟩
theorem PartsIn.push {o : Obj} {k g m cap : Nat} {d : Dep} (h : PartsIn n B w v l S) (hk : k < n) (hown : Own rDep w' B 38 (.slice (some ⟨g, 0, none⟩) m cap) (l k ++ [d]) S)
    (hg : (w.alloc o).grownBy w' (v k).ownBlock) (hat : (v k).ownBlock = some g ∨ g = w.heap.size + 1) : PartsIn n B w' (upd v k (.slice (some ⟨g, 0, none⟩) m cap)) (upd l k (l k ++ [d])) S := by
  have hS : ∀ b, S b → some b ≠ (v k).ownBlock := fun b hb => Ne.symm ((h.1 k hk).1 b hb).2
  have hv : ∀ j, j < n → j ≠ k → (v j).ownBlock ≠ some g := fun j hj hne e => by
    rcases hat with hat | hat
    · exact h.2.2 j k g hj hk hne e hat
    · have := ((h.1 j hj).lt g e).2; omega
  refine ⟨fun j hj => ?_, fun b hs => ?_, fun i j q hi hj hne hq => ?_⟩
  · by_cases e : j = k
    · subst e; rw [upd_at, upd_at]; exact hown
    · rw [upd_ne _ _ e, upd_ne _ _ e]
      refine ((h.1 j hj).alloc o).grown hg ?_ hS
      cases hvj : (v j).ownBlock with
      | none => exact .inl rfl
      | some q => exact .inr fun e' => h.2.2 j k q hj hk e hvj e'.symm
  · have hl := live_lt (h.2.1 b hs).2
    refine ⟨(h.2.1 b hs).1, live_same (h.2.1 b hs).2 ?_⟩
    rw [hg.block b (by simp; omega) (hS b hs)]
    exact Below.heap_alloc w o b hl
  · by_cases ei : i = k
    · subst ei
      rw [upd_at] at hq
      simp only [Value.ownBlock, Option.some.injEq] at hq
      subst hq
      rw [upd_ne _ _ (Ne.symm hne)]
      exact hv j hj (Ne.symm hne)
    · rw [upd_ne _ _ ei] at hq
      by_cases ej : j = k
      · subst ej
        rw [upd_at]
        intro e
        simp only [Value.ownBlock, Option.some.injEq] at e
        subst e
        exact hv i hi ei hq
      · rw [upd_ne _ _ ej]
        exact h.2.2 i j q hi hj hne hq
end

/-- the cells of a block: some ahead, then one for each list -/
def cellsP (hd : List Value) (n : Nat) (v : Nat → Value) : Array Value := (hd ++ (List.range n).map v).toArray
theorem cellsP_at (hd : List Value) {n : Nat} (v : Nat → Value) {j : Nat} (h : j < n) : (cellsP hd n v)[hd.length + j]? = some (v j) := by
  unfold cellsP
  rw [List.getElem?_toArray, List.getElem?_append_right (by omega), Nat.add_sub_cancel_left, List.getElem?_map, List.getElem?_range h]
  rfl
theorem cellsP_set (hd : List Value) {n : Nat} (v : Nat → Value) {k : Nat} (h : k < n) (x : Value) : (cellsP hd n v).setIfInBounds (hd.length + k) x = cellsP hd n (upd v k x) := by
  apply Array.ext'
  unfold cellsP
  rw [Array.toList_setIfInBounds]
  show (hd ++ (List.range n).map v).set (hd.length + k) x = hd ++ (List.range n).map (upd v k x)
  rw [List.set_append, if_neg (by omega), Nat.add_sub_cancel_left]
  congr 1
  apply List.ext_getElem?
  intro i
  rw [List.getElem?_set, List.getElem?_map, List.getElem?_map, List.length_map, List.length_range]
  by_cases e : k = i
  · subst e
    rw [if_pos rfl, if_pos h, List.getElem?_range h, Option.map_some, upd_at]
  · rw [if_neg e]
    by_cases hi : i < n
    · rw [List.getElem?_range hi, Option.map_some, Option.map_some, upd_ne _ _ (Ne.symm e)]
    · rw [List.getElem?_eq_none (by simpa using hi)]; rfl
/-- a block of lists -/
def PartsAt (P : Nat) (hd : List Value) (t : TypeId) (n : Nat) (w : World) (v : Nat → Value) : Prop := w.heap[P]? = some (.cells (cellsP hd n v) t (0, 0))
section
variable {P n : Nat} {hd : List Value} {t : TypeId} {w w' : World} {v : Nat → Value}
theorem PartsAt.lt (h : PartsAt P hd t n w v) : P < w.heap.size := (Array.getElem?_eq_some_iff.1 h).1
theorem PartsAt.cell (h : PartsAt P hd t n w v) {j : Nat} (hj : j < n) : w.cell? ⟨P, hd.length + j, none⟩ = some (v j) := by
  rw [cell_of_row w P _ _ t _ h, cellsP_at hd v hj]
theorem PartsAt.free (h : PartsAt P hd t n w v) (o : Nat) : w.frozen? ⟨P, o, none⟩ = false := by
  have h' : w.heap[P]? = some (.cells (cellsP hd n v) t (0, 0)) := h
  simp [World.frozen?, h']
theorem PartsAt.keep (h : PartsAt P hd t n w v) (hb : Below w.heap.size w w') : PartsAt P hd t n w' v := (hb.block P h.lt).trans h
theorem PartsAt.grown (h : PartsAt P hd t n w v) {row : Option Nat} (hg : w.grownBy w' row) (hne : some P ≠ row) : PartsAt P hd t n w' v := (hg.block P h.lt hne).trans h
theorem PartsAt.set (h : PartsAt P hd t n w v) {k : Nat} (hk : k < n) (x : Value) : PartsAt P hd t n (w.setCell ⟨P, hd.length + k, none⟩ x) (upd v k x) := by
  have := heap_set1 (o := hd.length + k) h x
  rw [cellsP_set hd v hk] at this
  exact this
end
theorem PartsAt.head {P n : Nat} {hd : List Value} {t : TypeId} {w : World} {v : Nat → Value} (h : PartsAt P hd t n w v) {i : Nat} (hi : i < hd.length) (x : Value) : PartsAt P (hd.set i x) t n (w.setCell ⟨P, i, none⟩ x) v := by
  have h1 := heap_set1 (o := i) h x
  have e : (cellsP hd n v).setIfInBounds i x = cellsP (hd.set i x) n v := by
    apply Array.ext'
    unfold cellsP
    rw [Array.toList_setIfInBounds]
    show (hd ++ (List.range n).map v).set i x = hd.set i x ++ (List.range n).map v
    rw [List.set_append, if_pos hi]
  rw [e] at h1
  exact h1
theorem grownBy_set (w : World) (b o : Nat) (u : Value) : w.grownBy (w.setCell ⟨b, o, none⟩ u) (some b) :=
  ⟨rfl, rfl, rfl, by simp, fun k _ hk => Below.heap_setCell _ _ _ k (fun e => hk (by rw [e]))⟩
/-- the rest of a slice that is read -/
theorem SlV.cut {α : Type} {r : Rp α} {w : World} {S : Nat → Prop} {l : List α} {A : Option Addr} {n c : Nat} (h : SlV r w S l (.slice A n c)) (k : Nat) (hk : k ≤ n) :
    SlV r w S (l.drop k) (.slice (if c = k then A else A.map (·.add (k * r.size))) (n - k) (c - k)) := by
  obtain ⟨A', c', h1, h2, h3, h4, h5⟩ := h
  simp only [List.cons.injEq, Value.slice.injEq, and_true] at h1
  obtain ⟨rfl, rfl, rfl⟩ := h1
  refine ⟨_, _, by rw [List.length_drop], by rw [List.length_drop]; omega, by omega, fun he => ?_, fun hn => ?_⟩
  · split at he
    · have := h4 he; omega
    · rw [Option.map_eq_none_iff] at he
      have := h4 he; omega
  · rw [List.length_drop] at hn
    obtain ⟨b, o, rfl, hS, hb, hr⟩ := h5 (by omega)
    rw [if_neg (by omega)]
    refine ⟨b, o + k * r.size, by rw [Option.map_some, add_lit'], hS, hb, fun i x hx => ?_⟩
    rw [List.getElem?_drop] at hx
    obtain ⟨cs, g1, g2⟩ := hr _ x hx
    refine ⟨cs, g1, fun j u hu => ?_⟩
    have := g2 j u hu
    rw [Nat.add_mul] at this
    rw [show o + k * r.size + i * r.size + j = o + (k * r.size + i * r.size) + j from by omega]
    exact this
/-- s[k:] -/
theorem run_from {P : Program} {t e : TypeId} {z : Nat} (ht : P.underlying t = some (.slice (P.elem t))) (he : P.elem t = e) (hs : ∀ w, (sizeOf e).run P w = .ok z w) (A : Option Addr) (n c k : Nat) (h : k ≤ n) (w : World) :
    (Instr.slice t (.slice A n c) (some (.int .i64 (k : Int))) none none).run P w = .ok (.slice (if c = k then A else A.map (·.add (k * z))) (n - k) (c - k)) w := by
  subst he
  rw [run_slice_l w t A n c ht .i64 (k : Int) (by omega) (by omega), hs]
  simp [Result.andThen, sliced]
theorem run_from_some {P : Program} {t e : TypeId} (ht : P.underlying t = some (.slice (P.elem t))) (he : P.elem t = e) (hs : ∀ w, (sizeOf e).run P w = .ok 1 w) (g n k : Nat) (h : k < n) (w : World) :
    (Instr.slice t (.slice (some ⟨g, 0, none⟩) n n) (some (.int .i64 (k : Int))) none none).run P w = .ok (.slice (some ⟨g, k, none⟩) (n - k) (n - k)) w := by
  rw [run_from ht he hs _ _ _ _ (by omega), if_neg (by omega), Option.map_some, add_lit', Nat.mul_one, Nat.zero_add]
end Go.Proofs.YtldjldkejjeamaaGreatDoor
set_option autoImplicit false
set_option relaxedAutoImplicit false
set_option linter.unusedVariables false
set_option linter.unusedSimpArgs false
namespace Go.Proofs.YtldjldkejjeamaaGreatDoor
open Go.Rows Go.RowKit Go.Shelf Go.Sort

theorem packQ_bad {t : ByteArray} {L : List (List ByteArray)} {en : Int} (h : scanQ 4096 t = (L, en)) (h0 : en ≠ 0) : packQ t = (packZ, en) := by
  unfold packQ packE
  rw [h, if_pos h0]
theorem packQ_form {t : ByteArray} {L : List (List ByteArray)} (h : scanQ 4096 t = (L, 0)) (h0 : ∀ a b c r, L ≠ [a, b, c] :: r) : packQ t = (packZ, 22) := by
  unfold packQ packE
  rw [h, if_neg (by simp)]
  match L, h0 with
  | [], _ => rfl
  | [] :: _, _ => rfl
  | [_] :: _, _ => rfl
  | [_, _] :: _, _ => rfl
  | [a, b, c] :: r, h0 => exact absurd rfl (h0 a b c r)
  | (_ :: _ :: _ :: _ :: _) :: _, _ => rfl
/-- behind a first line of three words -/
theorem packQ_line {t a nm vs : ByteArray} {rest : List (List ByteArray)} (h : scanQ 4096 t = ([a, nm, vs] :: rest, 0)) :
    (a ≠ packageW → packQ t = (packZ, 22)) ∧ (a = packageW → (nameB nm = false → packQ t = (packZ, 23)) ∧ (nameB nm = true → (vparse vs = none → packQ t = (packZ, 20)) ∧ (∀ v, vparse vs = some v →
      (∀ e, listsE packOrder rest (0, rm 3 fun _ => []) = .error e → packQ t = (packZ, e)) ∧
      (∀ l, listsE packOrder rest (0, rm 3 fun _ => []) = .ok (rm 3 l) → (packB ⟨nm, v, l 0, l 1, l 2⟩ = false → packQ t = (packZ, 24)) ∧ (packB ⟨nm, v, l 0, l 1, l 2⟩ = true → packQ t = (⟨nm, v, l 0, l 1, l 2⟩, 0)))))) := by
  have hr : rm 3 (fun _ => []) = [[], [], []] := rfl
  unfold packQ packE
  rw [h, if_neg (by simp)]
  simp only
  refine ⟨fun ha => ?_, fun ha => ⟨fun hn => ?_, fun hn => ⟨fun hv => ?_, fun v hv => ⟨fun e he => ?_, fun l hl => ⟨fun hb => ?_, fun hb => ?_⟩⟩⟩⟩⟩
  · rw [if_pos (fun e => ha (data_inj e))]
  all_goals rw [if_neg (by rw [ha]; simp)]
  · rw [if_pos hn]
  all_goals rw [if_neg (by rw [hn]; decide), hv]
  all_goals simp only
  · rw [hr] at he; rw [he]
  all_goals
    rw [hr] at hl
    rw [hl, show rm 3 l = [l 0, l 1, l 2] from rfl]
    simp only
  · rw [if_neg (by rw [hb]; decide)]
  · rw [if_pos hb]

/-- a package's value whose lists are the reader's own -/
def PackO (w : World) (B : Nat) (p : Pack) (u : Value) : Prop :=
  ∃ (v : Nat → Value) (l : Nat → List Dep) (S : Nat → Prop), u = .agg (cellsP [.string p.name, .int .i64 p.ver.major, .int .i64 p.ver.minor, .int .i64 p.ver.patch] 3 v) ∧ p.name.size ≤ maxLen ∧ PartsIn 3 B w v l S ∧ l 0 = p.deps ∧ l 1 = p.peers ∧ l 2 = p.opts
theorem PackO.zero (w : World) (B : Nat) : PackO w B packZ (.agg #[.string ⟨#[]⟩, .int .i64 0, .int .i64 0, .int .i64 0, .slice none 0 0, .slice none 0 0, .slice none 0 0]) :=
  ⟨_, _, _, rfl, by decide, PartsIn.nil 3 B w, rfl, rfl, rfl⟩
theorem PackO.packV {w : World} {B : Nat} {p : Pack} {u : Value} (h : PackO w B p u) : PackV w (Fresh B w) p u := by
  obtain ⟨v, l, S, rfl, hz, ⟨h1, h2, h3⟩, e0, e1, e2⟩ := h
  have g0 := (h1 0 (by decide)).slvF h2
  have g1 := (h1 1 (by decide)).slvF h2
  have g2 := (h1 2 (by decide)).slvF h2
  obtain ⟨A0, c0, q0, _, _⟩ := g0.val
  obtain ⟨A1, c1, q1, _, _⟩ := g1.val
  obtain ⟨A2, c2, q2, _, _⟩ := g2.val
  rw [q0, e0] at g0
  rw [q1, e1] at g1
  rw [q2, e2] at g2
  refine ⟨A0, _, c0, A1, _, c1, A2, _, c2, ?_, hz, g0, g1, g2⟩
  show Value.agg #[_, _, _, _, v 0, v 1, v 2] = _
  rw [q0, q1, q2, e0, e1, e2]
theorem PackO.keep {w w' : World} {B : Nat} {p : Pack} {u : Value} (h : PackO w B p u) (hb : Below w.heap.size w w') : PackO w' B p u := by
  obtain ⟨v, l, S, h1, h2, h3, h4⟩ := h
  exact ⟨v, l, S, h1, h2, h3.keep hb, h4⟩
theorem PartsIn.lower {n B B' : Nat} {w : World} {v : Nat → Value} {l : Nat → List Dep} {S : Nat → Prop} (h : PartsIn n B w v l S) (hB : B' ≤ B) : PartsIn n B' w v l S :=
  ⟨fun j hj => (h.1 j hj).lower hB, fun b hb => ⟨Nat.le_trans hB (h.2.1 b hb).1, (h.2.1 b hb).2⟩, h.2.2⟩
theorem PackO.lower {w : World} {B B' : Nat} {p : Pack} {u : Value} (h : PackO w B p u) (hB : B' ≤ B) : PackO w B' p u := by
  obtain ⟨v, l, S, h1, h2, h3, h4⟩ := h
  exact ⟨v, l, S, h1, h2, h3.lower hB, h4⟩

theorem ret_cells {P : Program} {fn : Func} {R : Ending → World → Prop} {ty : TypeId} {d : TypeDesc} {p q : Tmp} {a : Act} {W : World} {g : Nat} {cs : Array Value} {bv : Value} {t : TypeId} (hf : fn.results = #[.cell p ty, .tmp q]) (hd : a.defers = []) (h2 : a.tmps.getD p undef = .pointer (some ⟨g, 0, none⟩)) (h3 : a.tmps.getD q undef = bv)
    (hg : W.heap[g]? = some (.cells cs t (0, 0))) (hu : P.underlying ty = some d) (hdd : (match d with | .struct _ | .array _ _ => true | _ => false) = true) (hi : (P.info? ty).map (·.size) = some cs.size)
    (h : R (.returned (.tuple #[.agg cs, bv])) W) : bodyPost P fn R Exit.ret a W :=
  bodyPost_ret (results_cell_slot hf a.tmps W g t cs (0, 0) d h2 hg hu hdd hi) hd (by rw [h3]; exact h)
theorem row7 {W : World} {b : Nat} {x0 x1 x2 x3 x4 x5 x6 : Value} {t : TypeId} (h : W.heap[b]? = some (.cells #[x0, x1, x2, x3, x4, x5, x6] t (0, 0))) :
    (W.cell? ⟨b, 0, none⟩ = some x0 ∧ W.cell? ⟨b, 1, none⟩ = some x1 ∧ W.cell? ⟨b, 2, none⟩ = some x2 ∧ W.cell? ⟨b, 3, none⟩ = some x3 ∧ W.cell? ⟨b, 4, none⟩ = some x4 ∧ W.cell? ⟨b, 5, none⟩ = some x5 ∧ W.cell? ⟨b, 6, none⟩ = some x6) ∧
    W.frozen? ⟨b, 0, none⟩ = false ∧ W.frozen? ⟨b, 1, none⟩ = false ∧ W.frozen? ⟨b, 2, none⟩ = false ∧ W.frozen? ⟨b, 3, none⟩ = false ∧ W.frozen? ⟨b, 4, none⟩ = false ∧ W.frozen? ⟨b, 5, none⟩ = false ∧ W.frozen? ⟨b, 6, none⟩ = false := by
  refine ⟨⟨cell_of_row _ _ 0 _ _ _ h, cell_of_row _ _ 1 _ _ _ h, cell_of_row _ _ 2 _ _ _ h, cell_of_row _ _ 3 _ _ _ h, cell_of_row _ _ 4 _ _ _ h, cell_of_row _ _ 5 _ _ _ h, cell_of_row _ _ 6 _ _ _ h⟩, ?_, ?_, ?_, ?_, ?_, ?_, ?_⟩ <;> simp [World.frozen?, h]
theorem heap_set7 {W : World} {b : Nat} {x0 x1 x2 x3 x4 x5 x6 : Value} {t : TypeId} (h : W.heap[b]? = some (.cells #[x0, x1, x2, x3, x4, x5, x6] t (0, 0))) (a0 a1 a2 a3 a4 a5 a6 : Value) :
    (((((((W.setCell ⟨b, 0, none⟩ a0).setCell ⟨b, 1, none⟩ a1).setCell ⟨b, 2, none⟩ a2).setCell ⟨b, 3, none⟩ a3).setCell ⟨b, 4, none⟩ a4).setCell ⟨b, 5, none⟩ a5).setCell ⟨b, 6, none⟩ a6).heap[b]? = some (.cells #[a0, a1, a2, a3, a4, a5, a6] t (0, 0)) := by
  have h0 := heap_set1 (o := 0) h a0
  rw [show (#[x0, x1, x2, x3, x4, x5, x6] : Array Value).setIfInBounds 0 a0 = #[a0, x1, x2, x3, x4, x5, x6] from rfl] at h0
  have h1 := heap_set1 (o := 1) h0 a1
  rw [show (#[a0, x1, x2, x3, x4, x5, x6] : Array Value).setIfInBounds 1 a1 = #[a0, a1, x2, x3, x4, x5, x6] from rfl] at h1
  have h2 := heap_set1 (o := 2) h1 a2
  rw [show (#[a0, a1, x2, x3, x4, x5, x6] : Array Value).setIfInBounds 2 a2 = #[a0, a1, a2, x3, x4, x5, x6] from rfl] at h2
  have h3 := heap_set1 (o := 3) h2 a3
  rw [show (#[a0, a1, a2, x3, x4, x5, x6] : Array Value).setIfInBounds 3 a3 = #[a0, a1, a2, a3, x4, x5, x6] from rfl] at h3
  have h4 := heap_set1 (o := 4) h3 a4
  rw [show (#[a0, a1, a2, a3, x4, x5, x6] : Array Value).setIfInBounds 4 a4 = #[a0, a1, a2, a3, a4, x5, x6] from rfl] at h4
  have h5 := heap_set1 (o := 5) h4 a5
  rw [show (#[a0, a1, a2, a3, a4, x5, x6] : Array Value).setIfInBounds 5 a5 = #[a0, a1, a2, a3, a4, a5, x6] from rfl] at h5
  have h6 := heap_set1 (o := 6) h5 a6
  rw [show (#[a0, a1, a2, a3, a4, a5, x6] : Array Value).setIfInBounds 6 a6 = #[a0, a1, a2, a3, a4, a5, a6] from rfl] at h6
  exact h6
theorem below_set7 {W0 W : World} {B b : Nat} (h : Below B W0 W) (hb : B ≤ b) (a0 a1 a2 a3 a4 a5 a6 : Value) :
    Below B W0 (((((((W.setCell ⟨b, 0, none⟩ a0).setCell ⟨b, 1, none⟩ a1).setCell ⟨b, 2, none⟩ a2).setCell ⟨b, 3, none⟩ a3).setCell ⟨b, 4, none⟩ a4).setCell ⟨b, 5, none⟩ a5).setCell ⟨b, 6, none⟩ a6) :=
  ((((((h.setCell hb a0).setCell hb a1).setCell hb a2).setCell hb a3).setCell hb a4).setCell hb a5).setCell hb a6

/-- where a slice that is read lies -/
theorem SlV.at {α : Type} {r : Rp α} {w : World} {S : Nat → Prop} {l : List α} {A : Option Addr} {n c : Nat} (h : SlV r w S l (.slice A n c)) (h0 : 0 < l.length) : ∃ b o, A = some ⟨b, o, none⟩ ∧ S b ∧ b < w.heap.size := by
  obtain ⟨b, o, cs, h1, h2, h3, _⟩ := h.elem (List.getElem?_eq_getElem h0)
  exact ⟨b, o, h1, h2, h3⟩
theorem SlV.str {w : World} {S : Nat → Prop} {l : List ByteArray} {b o n c i : Nat} {x : ByteArray} (h : SlV rStr w S l (.slice (some ⟨b, o, none⟩) n c)) (hx : l[i]? = some x) : w.cell? ⟨b, o + i, none⟩ = some (.string x) ∧ x.size ≤ maxLen := by
  obtain ⟨b', o', cs, h1, _, _, ⟨rfl, hz⟩, hcell⟩ := h.elem hx
  injection h1 with h1
  injection h1 with hb ho _
  subst hb ho
  have := hcell 0 _ rfl
  simp only [rStr, Nat.add_zero, Nat.mul_one] at this
  exact ⟨this, hz⟩
theorem SlV.row {α : Type} {r : Rp α} {w : World} {S : Nat → Prop} {l : List (List α)} {b o n c i : Nat} {x : List α} (h : SlV (rSlice r) w S l (.slice (some ⟨b, o, none⟩) n c)) (hx : l[i]? = some x) : ∃ A c', w.cell? ⟨b, o + i, none⟩ = some (.slice A x.length c') ∧ SlV r w S x (.slice A x.length c') := by
  obtain ⟨b', o', cs, h1, _, _, hs, hcell⟩ := h.elem hx
  injection h1 with h1
  injection h1 with hb ho _
  subst hb ho
  obtain ⟨A, c', rfl, hs'⟩ := hs
  have := hcell 0 _ rfl
  simp only [rSlice, Nat.add_zero, Nat.mul_one] at this
  exact ⟨A, c', this, A, c', rfl, hs'⟩
theorem depE_err {prev : Option ByteArray} {w : List ByteArray} {k : Int} (h : depE prev w = .error k) : k ≠ 0 := by
  unfold depE at h
  split at h
  · split at h
    · split at h
      · cases h
      · cases h; decide
    · cases h; decide
  · cases h; decide
theorem lists_at {order : List ByteArray} {rest : List (List ByteArray)} {k : Nat} {st : Nat × List (List Dep)} {ws : List ByteArray} (h : rest[k]? = some ws) : listsE order (rest.drop k) st = listsE order (ws :: rest.drop (k + 1)) st := by
  obtain ⟨hk, e⟩ := List.getElem?_eq_some_iff.1 h
  rw [List.drop_eq_getElem_cons hk, e]
theorem idxI_none {l : List ByteArray} {x : ByteArray} (h : idxGo l x = none) : idxI l x = -1 := by unfold idxI; rw [h]
theorem idxI_some {l : List ByteArray} {x : ByteArray} {q : Nat} (h : idxGo l x = some q) : idxI l x = (q : Int) := by unfold idxI; rw [h]
theorem elt_dep : Elt Tryz.prog 38 2 40 := Elt.mk' (z := .agg #[.string ⟨#[]⟩, .slice none 0 0]) (by kernel_rfl) rfl (by decide)
theorem PartsIn.set7 {n B : Nat} {w : World} {v : Nat → Value} {l : Nat → List Dep} {S : Nat → Prop} (h : PartsIn n B w v l S) {b : Nat} (hb : b < B) (a0 a1 a2 a3 a4 a5 a6 : Value) :
    PartsIn n B (((((((w.setCell ⟨b, 0, none⟩ a0).setCell ⟨b, 1, none⟩ a1).setCell ⟨b, 2, none⟩ a2).setCell ⟨b, 3, none⟩ a3).setCell ⟨b, 4, none⟩ a4).setCell ⟨b, 5, none⟩ a5).setCell ⟨b, 6, none⟩ a6) v l S :=
  ((((((h.at hb (grownBy_set _ _ _ _)).at hb (grownBy_set _ _ _ _)).at hb (grownBy_set _ _ _ _)).at hb (grownBy_set _ _ _ _)).at hb (grownBy_set _ _ _ _)).at hb (grownBy_set _ _ _ _)).at hb (grownBy_set _ _ _ _)
theorem parts_step {n P k g m cap : Nat} {hd : List Value} {t : TypeId} {w8 wc w9 : World} {v : Nat → Value} {l : Nat → List Dep} {S : Nat → Prop} {o : Obj} {d : Dep} (hP : P < w8.heap.size) (hIn : PartsIn n w8.heap.size wc v l S) (hAt : PartsAt P hd t n wc v) (hT : Turn (fun j => j = P) w8 wc) (hk : k < n)
    (hown : Own rDep w9 w8.heap.size 38 (.slice (some ⟨g, 0, none⟩) m cap) (l k ++ [d]) S) (hg : (wc.drew.alloc o).grownBy w9 (v k).ownBlock) (hat : (v k).ownBlock = some g ∨ g = wc.heap.size + 1) :
    PartsIn n w8.heap.size (w9.setCell ⟨P, hd.length + k, none⟩ (.slice (some ⟨g, 0, none⟩) m cap)) (upd v k (.slice (some ⟨g, 0, none⟩) m cap)) (upd l k (l k ++ [d])) S ∧
    PartsAt P hd t n (w9.setCell ⟨P, hd.length + k, none⟩ (.slice (some ⟨g, 0, none⟩) m cap)) (upd v k (.slice (some ⟨g, 0, none⟩) m cap)) ∧
    Turn (fun j => j = P) w8 (w9.setCell ⟨P, hd.length + k, none⟩ (.slice (some ⟨g, 0, none⟩) m cap)) := by
  have hbd : Below wc.heap.size wc wc.drew := (Below.refl _ _).drew
  have hrow : ∀ q, (v k).ownBlock = some q → w8.heap.size ≤ q := fun q hq => ((hIn.1 k hk).lt q hq).1
  have hne : some P ≠ (v k).ownBlock := fun e => by have := hrow P e.symm; omega
  refine ⟨((hIn.keep hbd).push hk hown hg hat).at hP (grownBy_set _ _ _ _), (((hAt.keep hbd).keep ((Below.refl _ _).alloc (Nat.le_refl _) o)).grown hg hne).set hk _, ?_⟩
  have h1 : Turn (fun j => j = P) w8 (wc.drew.alloc o) := (hT.trans (Turn.of_below hbd)).trans (Turn.alloc _ _)
  have h2 : Turn (fun j => j = P) w8 w9 := h1.trans2 (Turn.grown (X := fun q => some q = (v k).ownBlock) hg (fun q hq => hq.symm)) (fun q hq e => by have := hrow q e.symm; omega)
  exact h2.trans (Turn.grown (grownBy_set _ _ _ _) (fun q hq => by cases hq; rfl))
end Go.Proofs.YtldjldkejjeamaaGreatDoor
