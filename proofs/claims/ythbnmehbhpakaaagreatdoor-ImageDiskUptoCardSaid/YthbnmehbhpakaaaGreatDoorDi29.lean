/-
  The program's disk: Load, walked.
  Whole numbers in doubles: sums and products that stay below 2^53 are exact. Complex numbers whose parts are whole: product, sum, the way from and to integers, the sign turned.
  Spots as data; the document's spots copied as the program's. The chart's points: a spot's point, the closures that turn one, quarters, what may be; over whole numbers. The number of the plane that turns by some quarters. May a drawing be: the library's search with a function over spots, and the program's answer. A spot made of a path and a point; a drawing with each point changed. The program's Twist, Turn and Flip. A drawing's frame: the least and the greatest of each part.
  A tree drawn on rows: which directory stands on which row, told by places; the plain law.
  The document's drawing of a tree: how many rows a directory takes, and what is drawn below it.
-/
import Derived.Test.YthbnmehbhpakaaaGreatDoorDi28
import Derived.Maps.RangeWalk
import Ieee.Arith
import Derived.Laws.ComplexArith
import Derived.Laws.FloatArith
import GoSem.Op.Unary
import Derived.Laws.Entries
import Derived.Test.YthbnmehbhpakaaaGreatDoorRows
import Derived.Test.YthbnmehbhpakaaaGreatDoorDi01
import Derived.Test.YthbnmehbhpakaaaGreatDoorDi05
import Derived.WalkKit
import Derived.WalkSpells
import Derived.WalkLawsBesides
import Derived.Deep.QuietTactic
import Derived.BigQuiet
import Derived.Deep.RegionHeld3
import Derived.IntWalk
import Derived.Lib.Hide
import Derived.KernelRfl
import Derived.Deep.DeepFit
import Derived.Lib.SliceRun
import Derived.Test.YthbnmehbhpakaaaGreatDoorDi15
set_option autoImplicit false
set_option relaxedAutoImplicit false
set_option linter.unusedVariables false
set_option linter.unusedSimpArgs false
namespace Go.Proofs.YthbnmehbhpakaaaGreatDoor
open Go.Rows Go.RowKit Go.Shelf Go.Maps

/-- a key of a map of texts is a text -/
theorem key_string {key : Value} {kl : Lit} (h : keyOf Tryz.prog 9 key = some kl) : ∃ x : ByteArray, key = .string x ∧ kl = .string x.data.toList := by
  rw [keyOf_string Tryz.underlying9] at h
  unfold mapKey at h
  rw [Tryz.underlying9] at h
  cases key <;> simp at h
  exact ⟨_, rfl, h.2.symm⟩
structure ThingV where
  dir : Bool
  data : ByteArray
/-- a thing's value has two cells -/
theorem thing_shape {v : Value} {y : DataW Unit × List MemPlace} (h : thingElem v = some y) : ∃ c : ThingV, v = .agg #[.bool c.dir, .string c.data] := by
  unfold thingElem at h
  split at h
  · rename_i cs
    split at h
    · rename_i d s hc
      exact ⟨⟨d, s⟩, by congr 1; exact Array.ext' hc⟩
    · cases h
  · cases h
/-- what the program's Load leaves -/
def LoadP (l : List File) (w : World) (e : Ending) (w' : World) : Prop :=
  (loadB l = false ∧ e = .returned (.tuple #[.pointer none, .int .i64 1])) ∨
  (loadB l = true ∧ ∃ d B rv zv, e = .returned (.tuple #[.pointer (some ⟨d, 0, none⟩), .int .i64 0]) ∧ w'.heap[d]? = some (.cells #[.map (some B), rv, zv] 115 (0, 0)) ∧ ThingsM w' B l)

set_option maxHeartbeats 3200000 in
set_option maxRecDepth 100000 in
theorem diskLoad_any (A : Option Addr) (n c : Nat) (l : List File) (w : World) (S : Nat → Prop) (hm : MaxL w) (hl : SlV rFile w S l (.slice A n c)) (hn9 : n ≤ 2000000) (hps : ∀ f ∈ l, f.path.size ≤ 67108864) :
    Calls Tryz.prog 17 #[.slice A n c] w fun e w' => LoadP l w e w' ∧ Below w.heap.size w w' := by
  have hn := hl.n_eq
  have hcm := hl.cap_le
  unfold maxLen at hcm
  have Hn := Lib.hid hn
  have HL := Lib.hid hl
  have Hps := Lib.hid hps
  obtain ⟨B, hB⟩ : ∃ B, B = w.heap.size := ⟨_, rfl⟩
  have HBs := Lib.hid hB
  have hN := diskNew_any w
  rw [← hB] at hN
  have HN := Lib.hid hN
  clear hN
  have Hm := Lib.hid hm
  have Hno : Hid (∀ (e : Ending) (w' : World), loadB l = false → e = .returned (.tuple #[.pointer none, .int .i64 1]) → LoadP l w e w') := fun e w' h1 h2 => .inl ⟨h1, h2⟩
  clear hn hl hps hm
  go_enter Tryz.func17, Tryz.ntmps17
  go_wp2_with fail
  refine HN.out.mono ?_
  rintro e w1 ⟨rfl, hw1⟩
  have HT1 : Hid (ThingsM w1 B []) := by rw [hw1, hB]; exact (ThingsM.made w).keep ((Below.refl _ _).alloc (Nat.le_refl _) _)
  have HD1 : Hid (w1.heap[B + 1]? = some (.cells #[.map (some B), .slice none 0 0, .int .i64 (-1)] 115 (0, 0))) := by unfold Hid; rw [hw1, hB, show w.heap.size + 1 = (w.alloc (.map #[] 0)).heap.size from by simp]; exact (Go.MapKept.heap_alloc (w.alloc (.map #[] 0)) _).1
  have HB1 : Hid (Below w.heap.size w w1) := by unfold Hid; rw [hw1]; exact bal (bal (Below.refl _ _) _) _
  have hz1 : B + 1 < w1.heap.size := by rw [hw1, hB]; simp
  have Hst : Hid (loadB l = (goodL (l.take 0) (l.drop 0) && homesB l)) := rfl
  clear hw1 HN hB
  go_wp2_with fail
  go_loopw [13] (fun i wr => ∃ k : Nat, k ≤ n ∧ i = .int .i64 k ∧ Hid (loadB l = (goodL (l.take k) (l.drop k) && homesB l)) ∧ Hid (ThingsM wr B (l.take k)) ∧ Hid (wr.heap[B + 1]? = some (.cells #[.map (some B), .slice none 0 0, .int .i64 (-1)] 115 (0, 0))) ∧ Hid (Below w.heap.size w wr) ∧ B + 1 < wr.heap.size) (fun i _ => n - (intOf i).toNat)
  case atStart => exact ⟨0, Nat.zero_le _, rfl, Hst, HT1, HD1, HB1, hz1⟩
  case round =>
    clear Hst HT1 HD1 HB1 hz1
    obtain ⟨k, hk, rfl, Hg, HT, HD, HB, hzr⟩ := hrel
    have d0 : wr.cell? ⟨B + 1, 0, none⟩ = some (.map (some B)) := cell_of_row wr (B + 1) 0 _ _ _ HD.out
    by_cases hlt : k < n
    case neg =>
      obtain rfl : k = n := by omega
      have hI : ¬ (k : Int) < (k : Int) := by omega
      have hke : l.take k = l := List.take_of_length_le (by rw [← Hn.out]; exact Nat.le_refl _)
      have hg1 : loadB l = homesB l := by rw [Hg.out, goodL_done (by rw [← Hn.out]; exact Nat.le_refl _), Bool.true_and]
      have Hg1 := Lib.hid hg1
      have hT := HT.out
      rw [hke] at hT
      obtain ⟨m, D, hown, hml, hmap, hD⟩ := hT
      have Hown := Lib.hid hown
      have HTW : Hid (∀ W, W.ownsMap Tryz.prog 9 thingElem B m D → ThingsM W B l) := fun W hW => ⟨m, D, hW, hml, hmap, hD⟩
      have Hin : Hid (∀ p : ByteArray, has D (.string p.data.toList) = true ↔ p ∈ pathsF l) := fun p => by
        rw [(hD p).1]
        constructor
        · intro h
          refine Classical.byContradiction fun hn => ?_
          rw [thingAt_none.2 hn] at h
          cases h
        · intro h
          cases hh : (thingAt l p).isSome with
          | true => rfl
          | false => exact absurd h (thingAt_none.1 hh)
      obtain ⟨wo, rfl⟩ : ∃ wo : World, wo = wr := ⟨_, rfl⟩
      clear hke hg1 hown hml hmap hD Hg HT Hn
      go_wp2_with (first
        | (at_range; refine wpList_range_own _ rfl _ 113 rfl 9 111 key_law Tryz.underlying113 _ B m D rfl Hown.out ?_; intro w0 hrg0 hg0 hs0)
        | go_in)
      have HB0 : Hid (Below wo.heap.size wo w0) := ⟨hg0.os, hg0.tape, hg0.output, hg0.size, fun i hi => hg0.block i hi (by simp)⟩
      have Hrg0 := Lib.hid hrg0
      clear hrg0 hg0 hs0
      go_loopw [9] (fun _ wq => ∃ (left : Lit → Bool) (cnt : Nat), Hid (wq.ranges Tryz.prog 9 thingElem B wo.heap.size m D left cnt) ∧ Hid (∀ kl, left kl = true → has D kl = true) ∧ Hid (∀ p : ByteArray, p ∈ pathsF l → left (.string p.data.toList) = true ∨ kindF l (upS p) = 2) ∧ Hid (Below wo.heap.size wo wq)) (fun _ wq => wq.rangeLeft B wo.heap.size)
      case atStart => exact ⟨_, _, Hrg0, fun kl h => h, fun p hp => .inl ((Hin.out p).2 hp), HB0⟩
      case round =>
        clear Hrg0 HB0
        obtain ⟨left, cnt, Hrg, Hlh, Hlk, HBq⟩ := hrel
        have HDq : Hid (wr.heap[B + 1]? = some (.cells #[.map (some B), .slice none 0 0, .int .i64 (-1)] 115 (0, 0))) := (HBq.out.block _ hzr).trans HD.out
        go_wp2_with (first
          | (at_next; refine wpList_next_ranges _ rfl _ rfl 9 key_law thingElem (fun x : ByteArray => Value.string x) (fun c : ThingV => Value.agg #[.bool c.dir, .string c.data]) (fun key kl h => (key_string h).imp fun x hx => hx.1) (fun v y h => thing_shape h) B wo.heap.size m D left cnt rfl Hrg.out ?_ ?_)
          | go_in)
        · intro hc0 hl0
          have hr : loadB l = true := by
            rw [Hg1.out]
            refine homes_of fun p hp => ?_
            rcases Hlk.out p hp with h | h
            · rw [hl0] at h; cases h
            · exact h
          have hpost : LoadP l w (.returned (.tuple #[.pointer (some ⟨B + 1, 0, none⟩), .int .i64 0])) wr := .inr ⟨hr, B + 1, B, _, _, rfl, HDq.out, HTW.out _ Hrg.out.owns⟩
          have Hpost := Lib.hid hpost
          clear hr hpost
          go_wp2_with fail
          go_ret2
          exact ⟨Hpost.out, bot HB.out HBq.out⟩
        · intro x cc kl ya yb w1 cnt1 hkey hlx hvx hat hrg1 hlt1 hg1 hs1 hen
          obtain ⟨x', ex, rfl⟩ := key_string hkey
          cases ex
          have hxm : x ∈ pathsF l := (Hin.out x).1 (Hlh.out _ hlx)
          have hxs : x.size ≤ 67108864 := by
            obtain ⟨f, hf, rfl⟩ := List.mem_map.1 hxm
            exact Hps.out f hf
          have HB1 : Hid (Below wo.heap.size wo w1) := HBq.out.grown hg1 HBq.out.size (fun g hg => by have := Option.some.inj hg; omega)
          have HD1 : Hid (w1.heap[B + 1]? = some (.cells #[.map (some B), .slice none 0 0, .int .i64 (-1)] 115 (0, 0))) := (HB1.out.block _ hzr).trans HD.out
          have HP := Lib.hid (fun W => diskParent_any x (by omega) W)
          have HK := Lib.hid (diskKind_any (B + 1) B (.slice none 0 0) (.int .i64 (-1)) l (upS x) w1 (by have := up_size x; unfold maxLen; omega) (cell_of_row w1 (B + 1) 0 _ _ _ HD1.out) (HTW.out _ hrg1.owns))
          have Hlt := Lib.hid hlt1
          have Hrg1 := Lib.hid hrg1
          clear hlt1 hrg1 hg1 hs1 hkey hvx hat
          go_wp2_with fail
          refine (HP.out _).mono ?_
          rintro e w5 ⟨rfl, rfl⟩
          go_wp2_with fail
          refine HK.out.mono ?_
          rintro e w6 ⟨rfl, hb6⟩
          have HB6 := Lib.hid (bot HB1.out hb6)
          have Hrg6 : Hid (w6.ranges Tryz.prog 9 thingElem B wo.heap.size m D (fun z => left z && !z.sameKey (.string x.data.toList)) cnt1) := Hrg1.out.kept (row := none) ⟨hb6.os, hb6.tape, hb6.output, hb6.size, fun q hq _ => hb6.block q hq⟩ (by simp) (by simp)
          clear hb6 HK HP hen
          by_cases hkd : kindF l (upS x) = 2
          · have hkb : (kindF l (upS x) == 2) = true := by simp [hkd]
            have Hlh6 : Hid (∀ kl, (left kl && !kl.sameKey (.string x.data.toList)) = true → has D kl = true) := fun kl h => Hlh.out kl (by rw [Bool.and_eq_true] at h; exact h.1)
            have Hlk6 : Hid (∀ p : ByteArray, p ∈ pathsF l → (left (.string p.data.toList) && !(Lit.string p.data.toList).sameKey (.string x.data.toList)) = true ∨ kindF l (upS p) = 2) := fun p hp => by
              by_cases e : p = x
              · exact .inr (by rw [e]; exact hkd)
              · rcases Hlk.out p hp with h | h
                · refine .inl ?_
                  rw [h, Maps.sameKey_ne (fun he => e (data_inj (by simpa using he)))]
                  rfl
                · exact .inr h
            have Hme : Hid (w6.rangeLeft B wo.heap.size < wr.rangeLeft B wo.heap.size) := by unfold Hid; rw [Hrg6.out.left_eq, Hrg.out.left_eq]; exact Hlt.out
            rw [hkd] at *
            clear hkd Hlh Hlk Hrg Hlt hlx
            go_wp2_with fail
            go_roundw
            case rel => exact ⟨_, cnt1, Hrg6, Hlh6, Hlk6, HB6⟩
            case measure => exact Hme.out
          · have hkb : (kindF l (upS x) == 2) = false := by simpa using hkd
            have Hr : Hid (loadB l = false) := Hg1.out.trans (homes_not hxm hkd)
            clear hkd Hlh Hlk Hrg Hlt hlx
            go_wp2_with fail
            go_ret2
            exact ⟨Hno.out _ _ Hr.out rfl, bot HB.out HB6.out⟩
    have hkI : (k : Int) < (n : Int) := by omega
    have hk0 : (0 : Int) ≤ (k : Int) := by omega
    have hkl : k < l.length := by rw [← Hn.out]; exact hlt
    obtain ⟨x, hx⟩ : ∃ x, l[k]? = some x := ⟨_, List.getElem?_eq_getElem hkl⟩
    have Hstep := Lib.hid (goodL_step hx)
    have Htk : Hid (l.take (k + 1) = l.take k ++ [x]) := by unfold Hid; rw [List.take_add_one, hx]; rfl
    have hxm : x ∈ l := List.mem_of_getElem? hx
    have hxp := Hps.out x hxm
    obtain ⟨b, o, cs, hA, _, _, ⟨hcs, _, _⟩, hcell⟩ := (HL.out.belowSize HB.out).elem hx
    subst hA
    have c0 := hcell 0 _ (by rw [hcs]; rfl)
    have c1 := hcell 1 _ (by rw [hcs]; rfl)
    have c2 := hcell 2 _ (by rw [hcs]; rfl)
    rw [show o + k * rFile.size + 0 = o + k * 3 from rfl] at c0
    rw [show o + k * rFile.size + 1 = o + k * 3 + 1 from rfl] at c1
    rw [show o + k * rFile.size + 2 = o + k * 3 + 2 from rfl] at c2
    clear hcell hcs hx
    obtain ⟨w4, hw4⟩ : ∃ w4, w4 = wr.alloc (.cells #[.string x.path, .bool x.dir, .string x.data] 45) := ⟨_, rfl⟩
    have HB4 : Hid (Below wr.heap.size wr w4) := by unfold Hid; rw [hw4]; exact bal (Below.refl _ _) _
    have hlook := (HT.out.keep HB4.out).look (p := x.path) (by unfold maxLen; omega)
    rw [hw4] at hlook
    generalize hdd : dirAt (l.take k) x.path = dd at *
    generalize hda : dataAt (l.take k) x.path = da at *
    generalize hzt : (thingAt (l.take k) x.path).isSome = zt at *
    have HT4 := Lib.hid (HT.out.keep HB4.out)
    rw [hw4] at HT4
    have Hlk : Hid (∀ W, ThingsM W B (l.take k) → (Instr.lookup 113 (.map (some B)) (.string x.path) true).run Tryz.prog W = .ok (.tuple #[.agg #[.bool dd, .string da], .bool zt]) W) := fun W hW => by
      have := hW.look (p := x.path) (by unfold maxLen; omega)
      rwa [hdd, hda, hzt] at this
    clear hdd hda
    have Hs : Hid (∀ W, Below w4.heap.size w4 W → W.cell? ⟨B + 1, 0, none⟩ = some (.map (some B)) ∧ W.cell? ⟨wr.heap.size, 0, none⟩ = some (.string x.path) ∧ ThingsM W B (l.take k) ∧ (Instr.lookup 113 (.map (some B)) (.string x.path) true).run Tryz.prog W = .ok (.tuple #[.agg #[.bool dd, .string da], .bool zt]) W) := fun W hW => by
      have e0 : w4.cell? ⟨B + 1, 0, none⟩ = some (.map (some B)) := by rw [hw4]; exact (cell_same (Below.heap_alloc wr _ _ (cell_lt d0)) _ none).trans d0
      have e1 : w4.cell? ⟨wr.heap.size, 0, none⟩ = some (.string x.path) := by rw [hw4]; simp [go_sem]
      have hT : ThingsM W B (l.take k) := by have := HT4.out; rw [← hw4] at this; exact this.keep hW
      exact ⟨below_cell hW e0 (cell_lt e0), below_cell hW e1 (cell_lt e1), hT, Hlk.out W hT⟩
    rw [hw4] at Hs
    go_wp2_with fail
    go_region_held3 (fun w' => w'.cell? ⟨B + 1, 0, none⟩ = some (.map (some B)) ∧ w'.cell? ⟨wr.heap.size, 0, none⟩ = some (.string x.path) ∧ ThingsM w' B (l.take k) ∧ (Instr.lookup 113 (.map (some B)) (.string x.path) true).run Tryz.prog w' = .ok (.tuple #[.agg #[.bool dd, .string da], .bool zt]) w')
      (first | exact Hs.out _ (Below.refl _ _).drew | exact Hs.out _ (bal (Below.refl _ _) _).drew | exact Hs.out _ (bal (Below.refl _ _).drew _) | exact Hs.out _ ((bal (Below.refl _ _) _).drew.setCell (by simp) _) | go_keep)
      (fail)
    all_goals
      obtain ⟨w5, hw5⟩ : ∃ w5, w5 = ((wr.alloc (.cells #[.string x.path, .bool x.dir, .string x.data] 45)).alloc (.cells #[.bool dd, .string da] 111)).drew := ⟨_, rfl⟩
      have HB5 : Hid (Below wr.heap.size wr w5) := by unfold Hid; rw [hw5]; exact (bal (bal (Below.refl _ _) _) _).drew
      have HF5 : Hid (w5.heap[wr.heap.size]? = some (.cells #[.string x.path, .bool x.dir, .string x.data] 45 (0, 0))) := by
        unfold Hid
        rw [hw5]
        exact (Go.MapKept.heap_alloc (wr.alloc (.cells #[.string x.path, .bool x.dir, .string x.data] 45)) _).2 wr.heap.size (by simp) |>.trans (Go.MapKept.heap_alloc wr _).1
      rw [← hw5]
      have hs5 : wr.heap.size < w5.heap.size := by rw [hw5]; simp; omega
      have f0 : w5.cell? ⟨wr.heap.size, 0, none⟩ = some (.string x.path) := cell_of_row w5 _ 0 _ _ _ HF5.out
      have f1 : w5.cell? ⟨wr.heap.size, 1, none⟩ = some (.bool x.dir) := cell_of_row w5 _ 1 _ _ _ HF5.out
      have f2 : w5.cell? ⟨wr.heap.size, 2, none⟩ = some (.string x.data) := cell_of_row w5 _ 2 _ _ _ HF5.out
      have HBe := Lib.hid (diskBelow_any x.path hxp w5 ((Hm.out).below (bot HB.out HB5.out)))
      clear hw5 hw4 HB4 hlook HT4 Hs Hlk
      cases zt with
      | true =>
        have ho := okF_thing hzt
        have Hr : Hid (loadB l = false) := by unfold Hid; rw [Hg.out, Hstep.out, ho]; rfl
        clear ho Hg Hstep
        go_wp2_with fail
        go_ret2
        exact ⟨Hno.out _ _ Hr.out rfl, bot HB.out HB5.out⟩
      | false =>
      go_wp2_with fail
      refine HBe.out.mono ?_
      rintro e w6 ⟨rfl, hb6⟩
      have HB6 := Lib.hid (bot HB5.out hb6)
      have g0 := below_cell hb6 f0 hs5
      have g1 := below_cell hb6 f1 hs5
      have g2 := below_cell hb6 f2 hs5
      have e0 : w6.cell? ⟨B + 1, 0, none⟩ = some (.map (some B)) := below_cell HB6.out d0 hzr
      have HT6 := Lib.hid (HT.out.keep HB6.out)
      clear hb6 HBe f0 f1 f2 hs5 HF5 HB5 c0 c1 c2 d0
      cases hpb : diskPathB x.path with
      | false =>
        have ho := okF_path (pre := l.take k) hpb
        have Hr : Hid (loadB l = false) := by unfold Hid; rw [Hg.out, Hstep.out, ho]; rfl
        clear ho Hg Hstep
        go_wp2_with fail
        go_ret2
        exact ⟨Hno.out _ _ Hr.out rfl, bot HB.out HB6.out⟩
      | true =>
      cases hdir : x.dir with
      | false =>
        have ho := okF_file hzt hpb hdir
        rw [hdir] at g1
        have Hnx : Hid (loadB l = (goodL (l.take (k + 1)) (l.drop (k + 1)) && homesB l)) := by unfold Hid; rw [Hg.out, Hstep.out, ho, Bool.true_and]
        clear ho Hg Hstep
        have r_e0 := cell_regrown e0
        have r_g0 := cell_regrown g0
        have r_g1 := cell_regrown g1
        have r_g2 := cell_regrown g2
        go_wp2_with fail
        refine wp_region_qb_tail 11 (by kernel_rfl) (by kernel_rfl) ?_
        simp only [List.take_succ_cons, List.take_zero, List.drop_succ_cons, List.drop_zero]
        repeat (go_big_quiet_step (first | fail))
        refine wpQuiet_nil ?_
        intro w7 B7
        have HB7 := Lib.hid (bot HB6.out B7)
        have hT7 : ThingsM w7 B (l.take k) := HT6.out.keep B7
        obtain ⟨w8, hrun, hT8, hg8⟩ := ThingsM.put (x := x) hT7 (by unfold maxLen; omega) (by rw [List.length_take]; omega) (findF_thing hzt)
        rw [hdir] at hrun
        rw [← Htk.out] at hT8
        have HT8 := Lib.hid hT8
        have hB1 : B + 1 < w7.heap.size := by have := HB6.out.size; have := B7.size; omega
        have HD8 : Hid (w8.heap[B + 1]? = some (.cells #[.map (some B), .slice none 0 0, .int .i64 (-1)] 115 (0, 0))) := (hg8.block (B + 1) hB1 (fun e => by have := Option.some.inj e; omega)).trans ((HB7.out.block _ hzr).trans HD.out)
        have HB8 : Hid (Below w.heap.size w w8) := (bot HB.out HB7.out).grown hg8 (by have := HB.out.size; have := HB7.out.size; omega) (fun g hg => by have := HBs.out; have := Option.some.inj hg; omega)
        have hz8 : B + 1 < w8.heap.size := Nat.lt_of_lt_of_le hB1 hg8.size
        clear hT7 hT8 hg8 HT HD HB HT6
        go_wp2_with fail
        go_roundw
        case rel => exact ⟨k + 1, by omega, by go_num, Hnx, HT8, HD8, HB8, hz8⟩
        case measure => simp [intOf]; omega
      | true =>
        rw [hdir] at g1
        cases hdat : (x.data.toList == []) with
        | true =>
          have ho := okF_dir hzt hpb hdir hdat
          have Hnx : Hid (loadB l = (goodL (l.take (k + 1)) (l.drop (k + 1)) && homesB l)) := by unfold Hid; rw [Hg.out, Hstep.out, ho, Bool.true_and]
          clear ho Hg Hstep
          have r_e0 := cell_regrown e0
          have r_g0 := cell_regrown g0
          have r_g1 := cell_regrown g1
          have r_g2 := cell_regrown g2
          go_wp2_with fail
          refine wp_region_qb_tail 11 (by kernel_rfl) (by kernel_rfl) ?_
          simp only [List.take_succ_cons, List.take_zero, List.drop_succ_cons, List.drop_zero]
          repeat (go_big_quiet_step (first | fail))
          refine wpQuiet_nil ?_
          intro w7 B7
          have HB7 := Lib.hid (bot HB6.out B7)
          have hT7 : ThingsM w7 B (l.take k) := HT6.out.keep B7
          obtain ⟨w8, hrun, hT8, hg8⟩ := ThingsM.put (x := x) hT7 (by unfold maxLen; omega) (by rw [List.length_take]; omega) (findF_thing hzt)
          rw [hdir] at hrun
          rw [← Htk.out] at hT8
          have HT8 := Lib.hid hT8
          have hB1 : B + 1 < w7.heap.size := by have := HB6.out.size; have := B7.size; omega
          have HD8 : Hid (w8.heap[B + 1]? = some (.cells #[.map (some B), .slice none 0 0, .int .i64 (-1)] 115 (0, 0))) := (hg8.block (B + 1) hB1 (fun e => by have := Option.some.inj e; omega)).trans ((HB7.out.block _ hzr).trans HD.out)
          have HB8 : Hid (Below w.heap.size w w8) := (bot HB.out HB7.out).grown hg8 (by have := HB.out.size; have := HB7.out.size; omega) (fun g hg => by have := HBs.out; have := Option.some.inj hg; omega)
          have hz8 : B + 1 < w8.heap.size := Nat.lt_of_lt_of_le hB1 hg8.size
          clear hT7 hT8 hg8 HT HD HB HT6
          go_wp2_with fail
          go_roundw
          case rel => exact ⟨k + 1, by omega, by go_num, Hnx, HT8, HD8, HB8, hz8⟩
          case measure => simp [intOf]; omega
        | false =>
          have ho := okF_full (pre := l.take k) hdir hdat
          have Hr : Hid (loadB l = false) := by unfold Hid; rw [Hg.out, Hstep.out, ho]; rfl
          clear ho Hg Hstep
          go_wp2_with fail
          go_ret2
          exact ⟨Hno.out _ _ Hr.out rfl, bot HB.out HB6.out⟩
end Go.Proofs.YthbnmehbhpakaaaGreatDoor
namespace Go.Proofs.YthbnmehbhpakaaaGreatDoor
open Ieee

end Go.Proofs.YthbnmehbhpakaaaGreatDoor
namespace Go.Proofs.YthbnmehbhpakaaaGreatDoor

theorem run_store_float (P : Program) (w : World) (a : Addr) (m : Mode) (k : FloatKind) (b : Nat) : (store a (.float k b) m).run P w = stored P w a (.float k b) m := run_store P w a _ m rfl
theorem run_store_complex (P : Program) (w : World) (a : Addr) (m : Mode) (k : FloatKind) (x y : Nat) : (store a (.complex k x y) m).run P w = stored P w a (.complex k x y) m := run_store P w a _ m rfl

end Go.Proofs.YthbnmehbhpakaaaGreatDoor
namespace Go.Proofs.YthbnmehbhpakaaaGreatDoor
open Go.RowKit
set_option linter.unusedVariables false
set_option linter.unusedSimpArgs false

structure Spot where
  path : List ByteArray
  x : Int
  y : Int

end Go.Proofs.YthbnmehbhpakaaaGreatDoor
namespace Go.Proofs.YthbnmehbhpakaaaGreatDoor
open Go.RowKit
set_option linter.unusedVariables false
set_option linter.unusedSimpArgs false

end Go.Proofs.YthbnmehbhpakaaaGreatDoor
namespace Go.Proofs.YthbnmehbhpakaaaGreatDoor
open Go.RowKit
set_option linter.unusedVariables false
set_option linter.unusedSimpArgs false

end Go.Proofs.YthbnmehbhpakaaaGreatDoor
namespace Go.Proofs.YthbnmehbhpakaaaGreatDoor
open Go.RowKit
set_option linter.unusedVariables false
set_option linter.unusedSimpArgs false

end Go.Proofs.YthbnmehbhpakaaaGreatDoor
namespace Go.Proofs.YthbnmehbhpakaaaGreatDoor
open Go.RowKit
set_option maxRecDepth 100000
set_option linter.unusedVariables false
set_option linter.unusedSimpArgs false

end Go.Proofs.YthbnmehbhpakaaaGreatDoor
namespace Go.Proofs.YthbnmehbhpakaaaGreatDoor
open Go.RowKit
set_option maxRecDepth 100000
set_option linter.unusedVariables false
set_option linter.unusedSimpArgs false

attribute [local go_sem] run_store_float run_store_complex

end Go.Proofs.YthbnmehbhpakaaaGreatDoor
namespace Go.Proofs.YthbnmehbhpakaaaGreatDoor
open Go.RowKit
set_option linter.unusedVariables false
set_option linter.unusedSimpArgs false

def mn (a b : Int) : Int := if b < a then b else a
def mx (a b : Int) : Int := if b > a then b else a
def lo (g : Spot → Int) : List Spot → Int
  | [] => 0
  | s :: l => l.foldl (fun a t => mn a (g t)) (g s)
def hi (g : Spot → Int) : List Spot → Int
  | [] => 0
  | s :: l => l.foldl (fun a t => mx a (g t)) (g s)
/-- a block of four numbers -/
def F4 (w : World) (B : Nat) (a b c d : Int) : Prop :=
  (w.cell? ⟨B, 0, none⟩ = some (.int .i64 a) ∧ w.cell? ⟨B, 1, none⟩ = some (.int .i64 b) ∧ w.cell? ⟨B, 2, none⟩ = some (.int .i64 c) ∧ w.cell? ⟨B, 3, none⟩ = some (.int .i64 d)) ∧
  (w.frozen? ⟨B, 0, none⟩ = false ∧ w.frozen? ⟨B, 1, none⟩ = false ∧ w.frozen? ⟨B, 2, none⟩ = false ∧ w.frozen? ⟨B, 3, none⟩ = false)
theorem F4.alloc {w : World} {B : Nat} {a b c d : Int} (h : F4 w B a b c d) (hB : B < w.heap.size) (o : Obj) : F4 (w.alloc o) B a b c d := by
  obtain ⟨⟨d0, d1, d2, d3⟩, g0, g1, g2, g3⟩ := h
  have hh := Below.heap_alloc w o B hB
  exact ⟨⟨(cell_same hh _ _).trans d0, (cell_same hh _ _).trans d1, (cell_same hh _ _).trans d2, (cell_same hh _ _).trans d3⟩, (frozen_same hh _ _).trans g0, (frozen_same hh _ _).trans g1, (frozen_same hh _ _).trans g2, (frozen_same hh _ _).trans g3⟩

end Go.Proofs.YthbnmehbhpakaaaGreatDoor
set_option autoImplicit false
set_option relaxedAutoImplicit false
set_option linter.unusedVariables false
set_option linter.unusedSimpArgs false
namespace Go.Proofs.YthbnmehbhpakaaaGreatDoor
open Go.Rows Go.RowKit Go.Shelf Go.Sort

/-- how deep a directory stands -/
def dep (t : List Dir) (j : Nat) : Nat := match t[j]? with | some d => d.path.length | none => 0
structure InDraw (t : List Dir) (j row rows : Nat) (e : Nat × Nat) : Prop where
  lt : e.1 < t.length
  ge : j ≤ e.1
  deep : dep t j ≤ dep t e.1
  pre : ∀ (hj : j < t.length), t[e.1].path.take (dep t j) = t[j].path
  lo : row ≤ e.2
  hi : e.2 < row + rows
end Go.Proofs.YthbnmehbhpakaaaGreatDoor
set_option autoImplicit false
set_option relaxedAutoImplicit false
set_option linter.unusedVariables false
set_option linter.unusedSimpArgs false
namespace Go.Proofs.YthbnmehbhpakaaaGreatDoor
open Go.Rows Go.RowKit Go.Shelf Go.Sort

section
variable {α : Type} {r : Rp α} {w : World} {S : Nat → Prop} {base : Nat} {e : TypeId}
/-- a row of the call's own with one element, as a literal lays it -/
theorem Own.lit (y : α) (cs : Array Value) (hb : base ≤ w.heap.size) (hy : r.holds w S y cs.toList) (hS : ∀ b, S b → b < w.heap.size) : Own r (w.alloc (.cells cs e)) base e (.slice (some ⟨w.heap.size, 0, none⟩) 1 1) [y] S := by
  have hl := r.len hy
  refine ⟨fun b hb' => ⟨?_, ?_⟩, cs.toList, ⟨?_, .inr ⟨w.heap.size, 1, cs, rfl, hb, heap_alloc_new w _, Nat.le_refl _, by decide, ?_, ?_⟩⟩, Elems.one_ (Rp.alloc hy _)⟩
  · have := hS b hb'; simp [go_sem]; omega
  · intro he
    have := hS b hb'
    simp [Value.ownBlock] at he
    omega
  · rw [hl]; simp
  · rw [← Array.length_toList, hl]; simp
  · rw [List.length_singleton, Nat.one_mul, ← hl, List.take_length]
end

end Go.Proofs.YthbnmehbhpakaaaGreatDoor
