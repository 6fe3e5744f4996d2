/-
  Spots as data; the document's spots copied as the program's.
-/
import Derived.Test.YtkpbnbnfgadkcaaDoorRows
import Derived.Test.YtkpbnbnfgadkcaaDoorOwn
import Derived.Test.YtkpbnbnfgadkcaaDoorPlain
import Derived.WalkKit
import Derived.WalkSpells
import Derived.WalkLawsBesides
import Derived.Deep.QuietTactic
import Derived.BigQuiet
import Derived.Deep.RegionHeld3
import Derived.IntWalk
import Derived.Lib.Hide
import Derived.KernelRfl
namespace Go.Proofs.YtkpbnbnfgadkcaaDoor
open Go.RowKit
set_option linter.unusedVariables false
set_option linter.unusedSimpArgs false

structure Spot where
  path : List ByteArray
  x : Int
  y : Int

def rSpot : Rp Spot where
  size := 3
  holds := fun w S s cs => ∃ p, cs = [p, .int .i64 s.x, .int .i64 s.y] ∧ SlV rStr w S s.path p ∧ I64 s.x ∧ I64 s.y
  len := fun ⟨_, h, _⟩ => by rw [h]; rfl
  one := fun ⟨p, h, hp, _⟩ => by
    obtain ⟨A, c, rfl, _⟩ := hp.val
    rw [h]; simp [Value.oneCell']
  mono := fun ⟨p, h, hp, hi⟩ hk => ⟨p, h, (rSlice rStr).mono hp hk, hi⟩

theorem elt_spot : Elt Tryd.prog 44 3 40 := Elt.mk' (z := .agg #[.slice none 0 0, .int .i64 0, .int .i64 0]) (by kernel_rfl) rfl (by decide)

theorem given_any (A : Option Addr) (n c : Nat) (l : List Spot) (w : World) (S : Nat → Prop) (hreach : l.length * 40 ≤ 140737488351232)
    (hl : SlV rSpot w S l (.slice A n c)) :
    Calls Tryd.prog 5 #[.slice A n c] w fun e w' => ∃ v, e = .returned v ∧ SlV rSpot w' (fun b => S b ∨ w.heap.size ≤ b) l v ∧ Below w.heap.size w w' := by
  have hnx := hl.n_eq
  have hn63 : n ≤ 9223372036854775807 := by omega
  have hl' := hl.more (S' := fun b => S b ∧ b < w.heap.size) fun b hb hlt => ⟨hb, hlt⟩
  have Hnx := Lib.hid hnx; clear hnx
  go_enter Tryd.func5, Tryd.ntmps5
  go_wp2
  go_loopw [3, 4] (fun v i wr => ∃ k : Nat, k ≤ n ∧ i = .int .i64 k ∧ Own rSpot wr w.heap.size 44 v (l.take k) (fun b => S b ∧ b < w.heap.size) ∧ Below w.heap.size w wr) (fun _ i _ => n - (intOf i).toNat)
  case atStart => exact ⟨0, Nat.zero_le _, rfl, Own.nil_ _ _ _ _ (fun b hb => hb.2), Below.refl _ _⟩
  case round =>
    obtain ⟨k, hk, rfl, hown, hbel⟩ := hrel
    by_cases hlt : k < n
    · have hkx : k < l.length := by have := Hnx.out; omega
      have hlw := hl'.below hbel (fun b hb => hb.2)
      obtain ⟨b, o, cs, rfl, hSb, hb1, hsp, hcell⟩ := hlw.elem (List.getElem?_eq_getElem hkx)
      have hsp' := hsp
      obtain ⟨p, rfl, hp, hx, hy⟩ := hsp
      obtain ⟨pA, pc, rfl, _, _⟩ := hp.val
      generalize (l[k]).path.length = pn at *
      have hc0 := hcell 0 _ rfl
      have hc1 := hcell 1 _ rfl
      have hc2 := hcell 2 _ rfl
      simp only [rSpot, Nat.add_zero] at hc0 hc1 hc2
      have htk := List.take_succ_eq_append_getElem hkx
      have hsz : (l.take k).length = k := by simp; omega
      have Htk := Lib.hid htk; clear htk
      have Hsz := Lib.hid hsz; clear hsz
      have hfar : some b ≠ u3.ownBlock := fun he => by have := (hown.lt b he.symm).1; have := hSb.2; omega
      have Hfar := Lib.hid hfar; clear hfar
      have Hown := Lib.hid hown; clear hown
      have Hsp := Lib.hid hsp'; clear hsp'
      have hkn : (k : Int) < (n : Int) := by omega
      generalize l[k] = s at *
      obtain ⟨path, x, y⟩ := s
      clear hp hx hy hcell hlw
      simp only at hc1 hc2
      go_wp2_with fail
      go_region_held3 (fun w' => w'.cell? ⟨b, o + k * 3, none⟩ = some (.slice pA pn pc) ∧ w'.cell? ⟨b, o + k * 3 + 1, none⟩ = some (.int .i64 x) ∧ w'.cell? ⟨b, o + k * 3 + 2, none⟩ = some (.int .i64 y)) (first | go_keep | exact ⟨hgrow.cell (by go_keep) Hfar.out, hgrow.cell (by go_keep) Hfar.out, hgrow.cell (by go_keep) Hfar.out⟩)
        ((refine step_push (by rfl) _ _ _ (by rfl) elt_spot Tryd.underlying28 (by rfl) ((Hown.out.alloc _).drew) ⟨wr.heap.size, 0, none⟩ 1 [.slice pA pn pc, .int .i64 x, .int .i64 y] ⟨path, x, y⟩ (by rfl) (Rp.drew (Rp.alloc Hsp.out _))
            (news_of wr #[.slice pA pn pc, .int .i64 x, .int .i64 y] _) (by rw [Hsz.out]; simp [maxLen]; omega) (by rw [Hsz.out]; omega) (by simp; exact Nat.le_succ_of_le hbel.size) (wr.heap.size + 1) (by simp) ?_; intro g cap w1 hown1 hgrow hat hg1))
      go_wp2
      rw [Hsz.out] at hown1
      rw [show min k l.length = k from by omega]
      go_roundw
      case rel => exact ⟨k + 1, by omega, by go_num, by rw [Htk.out]; exact hown1, ((hbel.alloc hbel.size _).drew).grown hgrow (by simp; exact Nat.le_succ_of_le hbel.size) (fun g' hg' => (Hown.out.lt g' hg').1)⟩
      case measure => simp [intOf]; omega
    · go_wp2
      go_ret
      have hkn : k = l.length := by have := Hnx.out; omega
      have hsl := hown.slv
      rw [hkn, List.take_length] at hsl
      exact ⟨_, rfl, hsl.more (fun b hb _ => by rcases hb with h | h; exact .inl h.1; exact .inr h), hbel⟩
end Go.Proofs.YtkpbnbnfgadkcaaDoor
