/-
  The document's disk: Load, walked.
-/
import Derived.Test.YtkpbpnecmfadlaaGreatDoorDiskL
import Derived.Test.YtkpbpnecmfadlaaGreatDoorDiskY
set_option autoImplicit false
set_option relaxedAutoImplicit false
set_option linter.unusedVariables false
set_option linter.unusedSimpArgs false
namespace Go.Proofs.YtkpbpnecmfadlaaGreatDoor
open Go.Rows Go.RowKit Go.Shelf

/-- what the document's Load leaves -/
def LoadR (l : List File) (w : World) (e : Ending) (w' : World) : Prop :=
  (loadB l = false ∧ e = .returned (.tuple #[.pointer none, .bool false])) ∨
  (loadB l = true ∧ ∃ d A n c M, e = .returned (.tuple #[.pointer (some ⟨d, 0, none⟩), .bool true]) ∧ w'.heap[d]? = some (.cells #[.slice A n c, .slice none 0 0, .int .i64 (-1)] 51 (0, 0)) ∧
    SlV rFile w' (fun b => b < w'.heap.size) M (.slice A n c) ∧ List.Perm M l ∧ (pathsF l).Nodup)

set_option maxHeartbeats 3200000 in
set_option maxRecDepth 100000 in
theorem docLoad_any (A : Option Addr) (n c : Nat) (l : List File) (w : World) (S : Nat → Prop) (hl : SlV rFile w S l (.slice A n c)) (hn9 : n ≤ 2000000) (hps : ∀ f ∈ l, f.path.size ≤ 67108864) :
    Calls Tryz.prog 5 #[.slice A n c] w fun e w' => LoadR l w e w' ∧ Below w.heap.size w w' := by
  have hn := hl.n_eq
  have hcm := hl.cap_le
  unfold maxLen at hcm
  have Hn := Lib.hid hn
  have HL := Lib.hid hl
  have Hps := Lib.hid hps
  have HN := Lib.hid (docNew_any w)
  have Hno : Hid (∀ (e : Ending) (w' : World), loadB l = false → e = .returned (.tuple #[.pointer none, .bool false]) → LoadR l w e w') := fun e w' h1 h2 => .inl ⟨h1, h2⟩
  clear hn hl hps
  obtain ⟨d, hd⟩ : ∃ d, d = w.heap.size := ⟨_, rfl⟩
  rw [← hd] at HN
  have Hd := Lib.hid hd
  clear hd
  go_enter Tryz.func5, Tryz.ntmps5
  go_wp2_with fail
  refine HN.out.mono ?_
  rintro e w1 ⟨rfl, hw1⟩
  have HV1 : Hid (SlV rFile w1 (fun b => b ≠ d ∧ b < w1.heap.size) ([] : List File) (.slice none 0 0)) := SlV.nil_ _ _ _
  have HD1 : Hid (w1.heap[d]? = some (.cells #[.slice none 0 0, .slice none 0 0, .int .i64 (-1)] 51 (0, 0))) := by unfold Hid; rw [hw1, Hd.out]; exact (Go.MapKept.heap_alloc w _).1
  have HB1 : Hid (Below w.heap.size w w1) := by unfold Hid; rw [hw1]; exact bal (Below.refl _ _) _
  have Hst : Hid (loadB l = (goodL (l.take 0) (l.drop 0) && homesB l)) := rfl
  have Hnd0 : Hid ((pathsF (l.take 0)).Nodup) := List.nodup_nil
  clear hw1 HN
  go_wp2_with fail
  go_loopw [5] (fun i wr => ∃ (k : Nat) (mA : Option Addr) (mc : Nat) (M : List File), k ≤ n ∧ i = .int .i64 k ∧ Hid (loadB l = (goodL (l.take k) (l.drop k) && homesB l)) ∧ Hid ((pathsF (l.take k)).Nodup) ∧ Hid (List.Perm M (l.take k)) ∧ Hid (SlV rFile wr (fun b => b ≠ d ∧ b < wr.heap.size) M (.slice mA k mc)) ∧ Hid (wr.heap[d]? = some (.cells #[.slice mA k mc, .slice none 0 0, .int .i64 (-1)] 51 (0, 0))) ∧ Hid (Below w.heap.size w wr)) (fun i _ => n - (intOf i).toNat)
  case atStart => exact ⟨0, none, 0, [], Nat.zero_le _, rfl, Hst, Hnd0, List.Perm.refl _, HV1, HD1, HB1⟩
  case round =>
    clear Hst HV1 HD1 HB1 Hnd0
    obtain ⟨k, mA, mc, M, hk, rfl, Hg, Hnd, HM, HV, HD, HB⟩ := hrel
    by_cases hlt : k < n
    case neg =>
      obtain rfl : k = n := by omega
      have hI : ¬ (k : Int) < (k : Int) := by omega
      have hke : l.take k = l := List.take_of_length_le (by rw [← Hn.out]; exact Nat.le_refl _)
      have Hnd' : Hid ((pathsF l).Nodup) := by have := Hnd.out; rwa [hke] at this
      have HM' : Hid (List.Perm M l) := by have := HM.out; rwa [hke] at this
      have Hg' : Hid (loadB l = M.all fun f => decide (kindF M (upS f.path) = 2)) := by unfold Hid; rw [Hg.out, goodL_done (by rw [← Hn.out]; exact Nat.le_refl _), Bool.true_and]; exact homes_perm Hnd'.out HM'.out
      have hpm : ∀ f ∈ M, f.path.size ≤ 67108864 := fun f hf => Hps.out f (HM'.out.mem_iff.1 hf)
      have Hpm := Lib.hid hpm
      have d0 : wr.cell? ⟨d, 0, none⟩ = some (.slice mA k mc) := cell_of_row wr d 0 _ _ _ HD.out
      have hmn := HV.out.n_eq
      have hmc := HV.out.cap_le
      unfold maxLen at hmc
      have Hmn := Lib.hid hmn
      clear hke Hg Hnd HM hmn hpm
      obtain ⟨wo, rfl⟩ : ∃ wo : World, wo = wr := ⟨_, rfl⟩
      go_wp2_with fail
      go_loopw [7] (fun i wr => ∃ q : Nat, q ≤ k ∧ i = .int .i64 q ∧ Hid (loadB l = (M.drop q).all fun f => decide (kindF M (upS f.path) = 2)) ∧ Hid (Below wo.heap.size wo wr)) (fun i _ => k - (intOf i).toNat)
      case atStart => exact ⟨0, Nat.zero_le _, rfl, Hg', Below.refl _ _⟩
      case round =>
        clear Hg'
        obtain ⟨q, hq, rfl, Hgq, HBq⟩ := hrel
        have hdr : d < wo.heap.size := (Array.getElem?_eq_some_iff.1 HD.out).1
        have HDq : Hid (wr.heap[d]? = some (.cells #[.slice mA k mc, .slice none 0 0, .int .i64 (-1)] 51 (0, 0))) := (HBq.out.block d hdr).trans HD.out
        have e0 : wr.cell? ⟨d, 0, none⟩ = some (.slice mA k mc) := cell_of_row wr d 0 _ _ _ HDq.out
        have HVq := Lib.hid (HV.out.belowSize HBq.out)
        by_cases hqk : q < k
        case neg =>
          obtain rfl : q = k := by omega
          have hI2 : ¬ (q : Int) < (q : Int) := by omega
          have hr : loadB l = true := by rw [Hgq.out, List.drop_eq_nil_of_le (by rw [← Hmn.out]; exact Nat.le_refl _)]; rfl
          have hpost : ∀ W, Below wo.heap.size wo W → LoadR l w (.returned (.tuple #[.pointer (some ⟨d, 0, none⟩), .bool true])) W := fun W hW =>
            .inr ⟨hr, d, mA, q, mc, M, rfl, (hW.block d hdr).trans HD.out, (HV.out.belowSize hW).more fun b hb hlt => hlt, HM'.out, Hnd'.out⟩
          have Hpost := Lib.hid hpost
          clear hr hpost
          go_wp2_with fail
          go_ret2
          exact ⟨Hpost.out _ HBq.out, bot HB.out HBq.out⟩
        have hqI : (q : Int) < (k : Int) := by omega
        have hq0 : (0 : Int) ≤ (q : Int) := by omega
        have hql : q < M.length := by rw [← Hmn.out]; exact hqk
        obtain ⟨y, hy⟩ : ∃ y, M[q]? = some y := ⟨_, List.getElem?_eq_getElem hql⟩
        have Hall := Lib.hid (all_atF (q := fun f => decide (kindF M (upS f.path) = 2)) hy)
        have hys := Hpm.out y (List.mem_of_getElem? hy)
        obtain ⟨b, o, cs, hA, _, _, ⟨hcs, _, _⟩, hcell⟩ := HVq.out.elem hy
        subst hA
        have c0 := hcell 0 _ (by rw [hcs]; rfl)
        rw [show o + q * rFile.size + 0 = o + q * 3 from rfl] at c0
        have HP := Lib.hid (fun W => docParent_any y.path (by omega) W)
        have HK := Lib.hid (docKind_any d _ k mc _ _ M (upS y.path) wr _ HDq.out HVq.out)
        clear hcell hcs hy hql
        go_wp2_with fail
        refine (HP.out _).mono ?_
        rintro e w5 ⟨rfl, rfl⟩
        go_wp2_with fail
        refine HK.out.mono ?_
        rintro e w6 ⟨rfl, rfl⟩
        by_cases hkd : kindF M (upS y.path) = 2
        · have hkb : (kindF M (upS y.path) == 2) = true := by simp [hkd]
          have Hnx : Hid (loadB l = (M.drop (q + 1)).all fun f => decide (kindF M (upS f.path) = 2)) := by unfold Hid; rw [Hgq.out, Hall.out, decide_eq_true hkd, Bool.true_and]
          rw [hkd] at *
          clear Hall Hgq hkd
          go_wp2_with fail
          go_roundw
          case rel => exact ⟨q + 1, by omega, by go_num, Hnx, HBq⟩
          case measure => simp [intOf]; omega
        · have hkb : (kindF M (upS y.path) == 2) = false := by simpa using hkd
          have Hnx : Hid (loadB l = false) := by unfold Hid; rw [Hgq.out, Hall.out, decide_eq_false hkd, Bool.false_and]
          clear Hall Hgq
          go_wp2_with fail
          go_ret2
          exact ⟨Hno.out _ _ Hnx.out rfl, bot HB.out HBq.out⟩
    have hkI : (k : Int) < (n : Int) := by omega
    have hk0 : (0 : Int) ≤ (k : Int) := by omega
    have hkl : k < l.length := by rw [← Hn.out]; exact hlt
    obtain ⟨x, hx⟩ : ∃ x, l[k]? = some x := ⟨_, List.getElem?_eq_getElem hkl⟩
    have Hstep := Lib.hid (goodL_step hx)
    have hxp := Hps.out x (List.mem_of_getElem? hx)
    obtain ⟨b, o, cs, hA, _, _, ⟨hcs, hz1, hz2⟩, hcell⟩ := (HL.out.belowSize HB.out).elem hx
    subst hA
    have c0 := hcell 0 _ (by rw [hcs]; rfl)
    have c1 := hcell 1 _ (by rw [hcs]; rfl)
    have c2 := hcell 2 _ (by rw [hcs]; rfl)
    rw [show o + k * rFile.size + 0 = o + k * 3 from rfl] at c0
    rw [show o + k * rFile.size + 1 = o + k * 3 + 1 from rfl] at c1
    rw [show o + k * rFile.size + 2 = o + k * 3 + 2 from rfl] at c2
    have HPth := Lib.hid (fun W => docPath_any x.path (by omega) W)
    have HFd := Lib.hid (docFind_any d _ k mc _ _ M x.path wr _ HD.out HV.out)
    have HPut := Lib.hid (docPut_any d _ k mc _ _ M x wr _ HD.out HV.out (by omega) (fun b h => h.2) hz1 hz2)
    have hth : (thingAt (l.take k) x.path).isSome = (thingAt M x.path).isSome := by rw [thingAt_perm Hnd.out HM.out]
    have Hpn : Hid ((thingAt (l.take k) x.path).isSome = false → (pathsF (l.take (k + 1))).Nodup ∧ List.Perm (putG geP x M false) (l.take (k + 1))) := fun h => ⟨paths_step hx Hnd.out h, perm_step hx Hnd.out HM.out h⟩
    have hfi := findFI_thing M x.path
    rw [← hth] at hfi
    clear hcell hcs hx hz1 hz2 hth
    go_wp2_with fail
    refine (HPth.out _).mono ?_
    rintro e w5 ⟨rfl, rfl⟩
    cases hpb : diskPathB x.path with
    | false =>
      have ho := okF_path (pre := l.take k) hpb
      have Hr : Hid (loadB l = false) := by unfold Hid; rw [Hg.out, Hstep.out, ho]; rfl
      clear ho Hg Hstep Hpn HPut
      go_wp2_with fail
      go_ret2
      exact ⟨Hno.out _ _ Hr.out rfl, HB.out⟩
    | true =>
    go_wp2_with fail
    refine HFd.out.mono ?_
    rintro e w6 ⟨rfl, rfl⟩
    rcases hfi with ⟨ht, q, hq⟩ | ⟨ht, hq⟩
    · have ho := okF_thing ht
      rw [hq]
      have hqI : (0 : Int) ≤ (q : Int) := by omega
      have Hr : Hid (loadB l = false) := by unfold Hid; rw [Hg.out, Hstep.out, ho]; rfl
      clear ho Hg Hstep Hpn HPut
      go_wp2_with fail
      go_ret2
      exact ⟨Hno.out _ _ Hr.out rfl, HB.out⟩
    · rw [hq]
      cases hdir : x.dir with
      | false =>
        have ho := okF_file ht hpb hdir
        rw [hdir] at c1 HPut
        have Hnx : Hid (loadB l = (goodL (l.take (k + 1)) (l.drop (k + 1)) && homesB l)) := by unfold Hid; rw [Hg.out, Hstep.out, ho, Bool.true_and]
        obtain ⟨hnd', hpm'⟩ := Hpn.out ht
        have Hnd' := Lib.hid hnd'
        have Hpm' := Lib.hid hpm'
        clear ho ht Hg Hstep Hpn hnd' hpm' HFd HPth
        go_wp2_with fail
        refine HPut.out.mono ?_
        rintro e w6 ⟨rfl, hput⟩
        obtain ⟨v, hv6, hd6, hg6⟩ := hput
        obtain ⟨vA, vc, rfl, _, _⟩ := hv6.val
        have hvl : (putG geP x M false).length = k + 1 := by rw [Hpm'.out.length_eq, List.length_take, ← Hn.out]; omega
        rw [hvl] at hv6 hd6
        have hdr : d < wr.heap.size := (Array.getElem?_eq_some_iff.1 HD.out).1
        have HV6 : Hid (SlV rFile w6 (fun b => b ≠ d ∧ b < w6.heap.size) (putG geP x M false) (.slice vA (k + 1) vc)) := hv6.more fun b hb hlt' => ⟨by omega, hlt'⟩
        have HD6 := Lib.hid hd6
        have HB6 : Hid (Below w.heap.size w w6) := ⟨hg6.os.trans HB.out.os, hg6.tape.trans HB.out.tape, hg6.output.trans HB.out.output, Nat.le_trans HB.out.size hg6.size, fun i hi => (hg6.block i (Nat.lt_of_lt_of_le hi HB.out.size) (fun e => by have := Hd.out; have := Option.some.inj e; omega)).trans (HB.out.block i hi)⟩
        clear hv6 hd6 hg6 hvl HPut HV HD HB HM Hnd
        go_wp2_with fail
        go_roundw
        case rel => exact ⟨k + 1, vA, vc, _, by omega, by go_num, Hnx, Hnd', Hpm', HV6, HD6, HB6⟩
        case measure => simp [intOf]; omega
      | true =>
        rw [hdir] at c1 HPut
        cases hdat : (x.data.toList == []) with
        | true =>
          have ho := okF_dir ht hpb hdir hdat
          have Hnx : Hid (loadB l = (goodL (l.take (k + 1)) (l.drop (k + 1)) && homesB l)) := by unfold Hid; rw [Hg.out, Hstep.out, ho, Bool.true_and]
          obtain ⟨hnd', hpm'⟩ := Hpn.out ht
          have Hnd' := Lib.hid hnd'
          have Hpm' := Lib.hid hpm'
          clear ho ht Hg Hstep Hpn hnd' hpm' HFd HPth
          go_wp2_with fail
          refine HPut.out.mono ?_
          rintro e w6 ⟨rfl, hput⟩
          obtain ⟨v, hv6, hd6, hg6⟩ := hput
          obtain ⟨vA, vc, rfl, _, _⟩ := hv6.val
          have hvl : (putG geP x M false).length = k + 1 := by rw [Hpm'.out.length_eq, List.length_take, ← Hn.out]; omega
          rw [hvl] at hv6 hd6
          have hdr : d < wr.heap.size := (Array.getElem?_eq_some_iff.1 HD.out).1
          have HV6 : Hid (SlV rFile w6 (fun b => b ≠ d ∧ b < w6.heap.size) (putG geP x M false) (.slice vA (k + 1) vc)) := hv6.more fun b hb hlt' => ⟨by omega, hlt'⟩
          have HD6 := Lib.hid hd6
          have HB6 : Hid (Below w.heap.size w w6) := ⟨hg6.os.trans HB.out.os, hg6.tape.trans HB.out.tape, hg6.output.trans HB.out.output, Nat.le_trans HB.out.size hg6.size, fun i hi => (hg6.block i (Nat.lt_of_lt_of_le hi HB.out.size) (fun e => by have := Hd.out; have := Option.some.inj e; omega)).trans (HB.out.block i hi)⟩
          clear hv6 hd6 hg6 hvl HPut HV HD HB HM Hnd
          go_wp2_with fail
          go_roundw
          case rel => exact ⟨k + 1, vA, vc, _, by omega, by go_num, Hnx, Hnd', Hpm', HV6, HD6, HB6⟩
          case measure => simp [intOf]; omega
        | false =>
          have ho := okF_full (pre := l.take k) hdir hdat
          have Hr : Hid (loadB l = false) := by unfold Hid; rw [Hg.out, Hstep.out, ho]; rfl
          clear ho Hg Hstep Hpn HPut
          go_wp2_with fail
          go_ret2
          exact ⟨Hno.out _ _ Hr.out rfl, HB.out⟩
end Go.Proofs.YtkpbpnecmfadlaaGreatDoor
