/-
  A project's files are a disk's; a lookup on that disk finds what a lookup in the tree finds.
-/
import Derived.Test.YthbnmehbhpakaaaGreatDoorDi30
import Derived.Test.YthbnmehbhpakaaaGreatDoorDi28
import Derived.Test.YthbnmehbhpakaaaGreatDoorDi18
set_option autoImplicit false
set_option relaxedAutoImplicit false
set_option linter.unusedVariables false
set_option linter.unusedSimpArgs false
namespace Go.Proofs.YthbnmehbhpakaaaGreatDoor
open Go

/-! ### keys as paths -/
theorem mkP_data (k : List (List UInt8)) : (mkP k).data.toList = sl k := by simp [mkP]
theorem mkP_size (k : List (List UInt8)) : (mkP k).size = (sl k).length := by
  show (sl k).toArray.size = _
  simp
theorem mkP_get {k : List (List UInt8)} {j : Nat} (h : j < (mkP k).size) : (mkP k)[j] = (sl k)[j]'(by rw [← mkP_size]; exact h) := by
  have : (mkP k).data[j]'h = (mkP k).data.toList[j]'(by simpa using h) := by simp
  show (mkP k).data[j]'h = _
  rw [this]
  simp only [mkP_data]
theorem cutS_sl : ∀ (k : List (List UInt8)) (s : List UInt8), noSl (s :: k) → cutS [] (s ++ sl k) = s :: k
  | [], s, h => by
    rw [sl, List.append_nil, cutS_none _ _ fun b hb => by simpa using h s (by simp) b hb]
    rfl
  | u :: k, s, h => by
    rw [sl, cutS_at _ _ _ fun b hb => by simpa using h s (by simp) b hb, List.nil_append, cutS_sl k u fun x hx => h x (List.mem_cons_of_mem _ hx)]
theorem diskPath_mkP {k : List (List UInt8)} (h0 : k ≠ []) (hc : noSl k) (hp : ∀ s ∈ k, pieceB (mkS s) = true) (hz : (mkP k).size ≤ 4096) : diskPathB (mkP k) = true := by
  obtain ⟨s, r, rfl⟩ : ∃ s r, k = s :: r := by
    cases k with
    | nil => exact absurd rfl h0
    | cons s r => exact ⟨s, r, rfl⟩
  unfold diskPathB
  rw [decide_eq_true hz, mkP_data, sl]
  show (decide ((47 : UInt8) = 47) && (cutS [] (s ++ sl r)).all fun l => pieceB (mkS l)) = true
  rw [cutS_sl r s hc, List.all_eq_true.2 hp]
  rfl
theorem piece_name {s : ByteArray} (h : nameB s = true) : pieceB (mkS s.data.toList) = true := by
  have e : mkS s.data.toList = s := by
    unfold mkS
    apply ByteArray.ext
    simp
  rw [e]
  unfold nameB at h
  obtain ⟨l, hl⟩ : ∃ l, l = s.data.toList := ⟨_, rfl⟩
  have hz : s.size = l.length := by rw [hl]; show s.data.size = _; simp
  unfold pieceB
  rw [Go.ByteArray.toList_eq, ← hl, hz]
  rw [← hl] at h
  cases l with
  | nil => cases h
  | cons c t =>
    simp only [nameL, Bool.and_eq_true, decide_eq_true_eq] at h
    obtain ⟨⟨h1, h2⟩, h3⟩ := h
    have hc : pieceC c = true := by unfold pieceC; rw [h1]; rfl
    have ht : t.all pieceC = true := List.all_eq_true.2 fun b hb => by
      have := List.all_eq_true.1 h2 b hb
      unfold nameC otherC at this
      unfold pieceC
      simp only [Bool.or_eq_true] at this ⊢
      rcases this with h | h | h
      · exact .inl (.inl (.inl h))
      · exact .inl (.inl (.inr h))
      · exact .inr h
    have hne : ∀ r, (c :: t == 46 :: r) = false := fun r => by
      cases hb : (c :: t == 46 :: r) with
      | false => rfl
      | true =>
        have : c :: t = 46 :: r := by simpa using hb
        injection this with e1 _
        rw [e1] at h1
        revert h1; decide
    rw [hne, hne, List.all_cons, hc, ht, decide_eq_true (by simp), decide_eq_true (by simp only [List.length_cons]; omega)]
    rfl
theorem segs_piece {p : List ByteArray} (h : p.all nameB = true) : ∀ s ∈ segs p, pieceB (mkS s) = true := by
  induction p with
  | nil => intro s hs; cases hs
  | cons x t ih =>
    rw [List.all_cons, Bool.and_eq_true] at h
    intro s hs
    rcases List.mem_cons.1 hs with rfl | hs
    · decide +kernel
    · rcases List.mem_cons.1 hs with rfl | hs
      · exact piece_name h.1
      · exact ih h.2 s hs
theorem up_mkP (k : List (List UInt8)) (x : List UInt8) (hx : ∀ b ∈ x, (b != 47) = true) : upS (mkP (k ++ [x])) = if k = [] then ⟨#[47]⟩ else mkP k := by
  have hsl : sl (k ++ [x]) = sl k ++ 47 :: x := by rw [sl_append, sl, sl, List.append_nil]
  have hz : (mkP (k ++ [x])).size = (sl k).length + 1 + x.length := by rw [mkP_size, hsl, List.length_append, List.length_cons]; omega
  have hn : (sl k).length < (mkP (k ++ [x])).size := by omega
  have h47 : ((mkP (k ++ [x]))[(sl k).length].toNat : Int) = 47 := by
    rw [mkP_get hn]
    simp only [hsl]
    rw [List.getElem_append_right (Nat.le_refl _)]
    simp
  have hno : ∀ j, (sl k).length < j → ∀ h : j < (mkP (k ++ [x])).size, ((mkP (k ++ [x]))[j].toNat : Int) ≠ 47 := fun j hj h e => by
    rw [mkP_get h] at e
    simp only [hsl] at e
    rw [List.getElem_append_right (by omega)] at e
    obtain ⟨q, hq⟩ : ∃ q, j - (sl k).length = q + 1 := ⟨j - (sl k).length - 1, by omega⟩
    simp only [hq, List.getElem_cons_succ] at e
    have := hx _ (List.getElem_mem (by omega : q < x.length))
    rw [bne_iff_ne] at this
    apply this
    apply UInt8.toNat_inj.1
    have h47' : (47 : UInt8).toNat = 47 := rfl
    omega
  have hk0 : k ≠ [] → 0 < (sl k).length := fun h => by
    cases k with
    | nil => exact absurd rfl h
    | cons s t => rw [sl, List.length_cons]; omega
  rcases up_spec (mkP (k ++ [x])) with ⟨_, h2, h3⟩ | ⟨i, hi0, _, hu, hi, hi47, haf⟩
  · have hk : k = [] := by
      refine Classical.byContradiction fun hk => ?_
      exact h3 _ (hk0 hk) hn h47
    rw [if_pos hk, h2]
  · have hin : i = (sl k).length := by
      rcases Nat.lt_trichotomy i (sl k).length with h | h | h
      · exact absurd h47 (haf _ h hn)
      · exact h
      · exact absurd hi47 (hno i h hi)
    have hk : k ≠ [] := fun e => by rw [hin, e] at hi0; simp [sl] at hi0
    rw [if_neg hk, hu, hin]
    apply ByteArray.ext
    apply Array.toList_inj.1
    rw [ByteArray.data_extract]
    simp [mkP, hsl]

/-! ### what stands at a path -/
theorem segs_append (a b : List ByteArray) : segs (a ++ b) = segs a ++ segs b := by
  induction a with
  | nil => rfl
  | cons x a ih => rw [List.cons_append, segs, ih, segs]; rfl
theorem mkP_ne {k : List (List UInt8)} {x : List UInt8} (hx : x ≠ []) : mkP (k ++ [x]) ≠ slashB := fun e => by
  have h1 := congrArg ByteArray.size e
  rw [mkP_size, sl_append, List.length_append] at h1
  have h2 : slashB.size = 1 := by decide
  have h3 : (sl [x]).length = x.length + 1 := by rw [sl, sl, List.append_nil, List.length_cons]
  have h4 : 0 < x.length := List.length_pos_iff.2 hx
  omega
theorem segs_last {p : List ByteArray} (h0 : p ≠ []) (h : p.all nameB = true) : ∃ q n, p = q ++ [n] ∧ q.all nameB = true ∧ nameB n = true ∧ segs p = (segs q ++ [modK]) ++ [n.data.toList] := by
  refine ⟨p.dropLast, p.getLast h0, (List.dropLast_concat_getLast h0).symm, ?_, List.all_eq_true.1 h _ (List.getLast_mem h0), ?_⟩
  · exact List.all_eq_true.2 fun x hx => List.all_eq_true.1 h x ((List.dropLast_sublist p).subset hx)
  · conv => lhs; rw [← List.dropLast_concat_getLast h0]
    rw [segs_append]
    simp [segs]
theorem textB_ne {p : List ByteArray} (h0 : p ≠ []) (h : p.all nameB = true) : textB p ≠ slashB := by
  obtain ⟨q, n, _, _, hn, e⟩ := segs_last h0 h
  rw [textB_segs h0 h, e]
  exact mkP_ne (fun e => by unfold nameB at hn; rw [e] at hn; cases hn)
theorem kind_is {l : List File} (hn : (pathsF l).Nodup) {p : ByteArray} {f : File} (hp : p ≠ slashB) (hf : f ∈ l) (e : f.path = p) : kindF l p = if f.dir = true then 2 else 1 := by
  rw [kindF_at hp, (thingAt_mem hn).2 ⟨hf, e⟩]
theorem kind_one {l : List File} (hn : (pathsF l).Nodup) {p : ByteArray} (hp : p ≠ slashB) (h : kindF l p = 1) : ∃ f ∈ l, f.path = p ∧ f.dir = false := by
  rw [kindF_at hp] at h
  cases ht : thingAt l p with
  | none => rw [ht] at h; cases h
  | some f =>
    rw [ht] at h
    obtain ⟨h1, h2⟩ := (thingAt_mem hn).1 ht
    refine ⟨f, h1, h2, ?_⟩
    cases hd : f.dir with
    | false => rfl
    | true => simp only [hd] at h; cases h
theorem segs_pkg {p : List ByteArray} (h : p.all nameB = true) (x : List UInt8) (hx : ∀ b ∈ x, (b != 47) = true) : noSl (segs p ++ [x]) := fun s hs => by
  rcases List.mem_append.1 hs with hs | hs
  · exact segs_clean h s hs
  · rw [List.mem_singleton.1 hs]; exact hx
theorem text_pkg {p : List ByteArray} (h0 : p ≠ []) (h : p.all nameB = true) : textB p ++ pkgW = mkP (segs p ++ [pkgK]) := by
  rw [show pkgW = pkgF from rfl, key_pkg, key_home h0 h]
theorem kind_dir {s : Proj} (h : mayI s = true) {p : List ByteArray} (h0 : p ≠ []) (hp : p.all nameB = true) :
    (kindF (imgU s) (textB p) = 2 ∧ kindF (imgU s) (textB p ++ pkgW) = 1) ↔ ∃ (j : Nat) (d : Dir), s.dirs[j]? = some d ∧ d.path = p := by
  have hn := imgU_apart h
  have hd := dirK_of (mayI_check h)
  have hz := segs_len p
  constructor
  · rintro ⟨_, h2⟩
    rw [text_pkg h0 hp] at h2
    obtain ⟨f, hf, hfp, hfd⟩ := kind_one hn (mkP_ne (by decide)) h2
    rcases imgU_cases hd hf with ⟨x, hx, hpx, _⟩ | ⟨i, e, hi, hc⟩
    · exfalso
      have hxc : noSl [x] := fun s hs => by
        rw [List.mem_singleton.1 hs]
        rcases hx with rfl | rfl | rfl <;> decide
      have h4 := congrArg List.length (mkP_inj (segs_pkg hp pkgK (by decide)) hxc (hfp.symm.trans hpx))
      rw [List.length_append, List.length_singleton, List.length_singleton] at h4
      have : p.length = 0 := by omega
      exact h0 (List.eq_nil_of_length_eq_zero this)
    · have hKe := hd i e hi
      rcases hc with ⟨_, _, hdir, _⟩ | ⟨_, hpe, _⟩ | ⟨_, _, hdir, _⟩
      · rw [hdir] at hfd; cases hfd
      · have h4 := mkP_inj (segs_pkg hp pkgK (by decide)) (segs_pkg hKe.1 pkgK (by decide)) (hfp.symm.trans hpe)
        exact ⟨i, e, hi, (segs_inj (List.append_cancel_right h4)).symm⟩
      · rw [hdir] at hfd; cases hfd
  · rintro ⟨j, d, hj, rfl⟩
    have hj0 : j ≠ 0 := fun e => h0 ((hd j d hj).2.1 e)
    obtain ⟨g1, g2⟩ := imgU_dir hd hj hj0
    refine ⟨?_, ?_⟩
    · rw [kind_is hn (textB_ne h0 hp) g1 (by show mkP _ = _; rw [textB_segs h0 hp])]
      rfl
    · rw [text_pkg h0 hp, kind_is hn (mkP_ne (by decide)) g2 rfl]
      rfl

/-! ### the files are a disk's -/
theorem goodL_of : ∀ (l pre : List File), (pathsF (pre ++ l)).Nodup → (∀ f ∈ l, diskPathB f.path = true ∧ (f.dir = true → f.data = emB)) → goodL pre l = true
  | [], _, _, _ => rfl
  | f :: l, pre, hn, h => by
    obtain ⟨h1, h2⟩ := h f (by simp)
    have hno : (thingAt pre f.path).isSome = false := by
      rw [thingAt_none]
      unfold pathsF at hn
      rw [List.map_append, List.nodup_append] at hn
      exact fun hm => hn.2.2 _ hm _ (List.mem_map.2 ⟨f, by simp, rfl⟩) rfl
    rw [goodL, goodL_of l (pre ++ [f]) (by rw [List.append_assoc]; exact hn) fun g hg => h g (by simp [hg]), Bool.and_true]
    cases hfd : f.dir with
    | false => exact okF_file hno h1 hfd
    | true => exact okF_dir hno h1 hfd (by rw [h2 hfd, Go.ByteArray.toList_eq]; rfl)
theorem dir_text {s : Proj} (h : mayI s = true) {j : Nat} {d : Dir} (hj : s.dirs[j]? = some d) : (textB d.path).size ≤ 1024 := by
  by_cases h0 : j = 0
  · rw [((dirK_of (mayI_check h)) j d hj).2.1 h0]; decide
  · exact (dir_pack (mayI_check h) hj (by omega)).2
theorem imgU_path {s : Proj} (h : mayI s = true) {f : File} (hf : f ∈ imgU s) : diskPathB f.path = true ∧ (f.dir = true → f.data = emB) := by
  have hd := dirK_of (mayI_check h)
  have hpc : ∀ x : List UInt8, pieceB (mkS x) = true → ∀ {p : List ByteArray}, p.all nameB = true → ∀ t ∈ segs p ++ [x], pieceB (mkS t) = true := fun x hx p hp t ht => by
    rcases List.mem_append.1 ht with ht | ht
    · exact segs_piece hp t ht
    · rw [List.mem_singleton.1 ht]; exact hx
  have hsz : ∀ {p : List ByteArray}, p.all nameB = true → (textB p).size ≤ 1024 → ∀ x : List UInt8, x.length ≤ 20 → (mkP (segs p ++ [x])).size ≤ 4096 := fun {p} hp hz x hx => by
    have e : (mkP (segs p ++ [x])).size = (mkP (segs p)).size + (x.length + 1) := by
      rw [mkP_size, mkP_size, sl_append, List.length_append]
      congr 1
      rw [sl, sl, List.append_nil, List.length_cons]
    by_cases h0 : p = []
    · subst h0
      rw [e]
      have : (mkP (segs [])).size = 0 := by rw [mkP_size]; rfl
      omega
    · rw [e, ← textB_segs h0 hp]; omega
  rcases imgU_cases hd hf with ⟨x, hx, hpx, hdir⟩ | ⟨j, d, hj, hc⟩
  · refine ⟨?_, fun e => by rw [hdir] at e; cases e⟩
    rw [hpx]
    refine diskPath_mkP (by simp) (fun s hs => by rw [List.mem_singleton.1 hs]; rcases hx with rfl | rfl | rfl <;> decide) (fun s hs => by rw [List.mem_singleton.1 hs]; rcases hx with rfl | rfl | rfl <;> decide +kernel) ?_
    rw [mkP_size]
    rcases hx with rfl | rfl | rfl <;> decide
  · have hK := hd j d hj
    have ht := dir_text h hj
    rcases hc with ⟨h0, hp, _, hdt⟩ | ⟨h0, hp, hdir⟩ | ⟨_, hp, _, hdt⟩
    · have hp0 : d.path ≠ [] := fun e => h0 (hK.2.2 e)
      refine ⟨?_, fun _ => hdt⟩
      rw [hp]
      refine diskPath_mkP (fun e => hp0 ?_) (segs_clean hK.1) (segs_piece hK.1) (by rw [← textB_segs hp0 hK.1]; omega)
      have := segs_len d.path
      rw [e, List.length_nil] at this
      exact List.eq_nil_of_length_eq_zero (by omega)
    · refine ⟨?_, fun e => by rw [hdir] at e; cases e⟩
      rw [hp]
      exact diskPath_mkP (by simp) (segs_pkg hK.1 pkgK (by decide)) (hpc pkgK (by decide +kernel) hK.1) (hsz hK.1 ht pkgK (by decide))
    · refine ⟨?_, fun _ => hdt⟩
      rw [hp]
      exact diskPath_mkP (by simp) (segs_pkg hK.1 modK (by decide)) (hpc modK (by decide +kernel) hK.1) (hsz hK.1 ht modK (by decide))
theorem imgU_home {s : Proj} (h : mayI s = true) {f : File} (hf : f ∈ imgU s) : kindF (imgU s) (upS f.path) = 2 := by
  have hc := mayI_check h
  have hd := dirK_of hc
  have hn := imgU_apart h
  have root : kindF (imgU s) ⟨#[47]⟩ = 2 := kindF_root rfl
  have hom : ∀ (j : Nat) (d : Dir) (x : List UInt8), s.dirs[j]? = some d → (∀ b ∈ x, (b != 47) = true) → kindF (imgU s) (upS (mkP (segs d.path ++ [x]))) = 2 := fun j d x hj hx => by
    have hK := hd j d hj
    rw [up_mkP _ _ hx]
    by_cases h0 : j = 0
    · rw [hK.2.1 h0, if_pos (by rfl)]; exact root
    · have hp0 : d.path ≠ [] := fun e => h0 (hK.2.2 e)
      have hs0 : segs d.path ≠ [] := fun e => hp0 (by
        have := segs_len d.path
        rw [e, List.length_nil] at this
        exact List.eq_nil_of_length_eq_zero (by omega))
      rw [if_neg hs0]
      obtain ⟨g1, _⟩ := imgU_dir hd hj h0
      rw [kind_is hn (by rw [← textB_segs hp0 hK.1]; exact textB_ne hp0 hK.1) g1 rfl]
      rfl
  rcases imgU_cases hd hf with ⟨x, hx, hpx, _⟩ | ⟨j, d, hj, hcs⟩
  · rw [hpx, show [x] = [] ++ [x] from rfl, up_mkP _ _ (by rcases hx with rfl | rfl | rfl <;> decide), if_pos rfl]
    exact root
  · have hK := hd j d hj
    rcases hcs with ⟨h0, hp, _, _⟩ | ⟨_, hp, _⟩ | ⟨_, hp, _, _⟩
    · have hp0 : d.path ≠ [] := fun e => h0 (hK.2.2 e)
      obtain ⟨hj', e'⟩ := List.getElem?_eq_some_iff.1 hj
      have hab := stands_above hc hj' (by omega)
      rw [e'] at hab
      obtain ⟨q, n, hq, hqn, hnn, hsg⟩ := segs_last hp0 hK.1
      have hlen : d.path.length = q.length + 1 := by rw [hq, List.length_append]; rfl
      rw [aboveI_take s.dirs hlen] at hab
      have htk : d.path.take q.length = q := by rw [hq, List.take_left]
      rw [htk] at hab
      obtain ⟨i, hi⟩ : ∃ i : Nat, findI s.dirs q = (i : Int) := ⟨(findI s.dirs q).toNat, by omega⟩
      obtain ⟨hil, hiq⟩ := findI_sound hi
      have hin : j ∈ insideL s.dirs i := (inside_mem hc hil).2 ⟨hj', by omega, by rw [e', aboveI_take s.dirs hlen, htk, hi]⟩
      have hm := imgU_mod hd (List.getElem?_eq_getElem hil) (fun e => by rw [e] at hin; cases hin)
      rw [hiq] at hm
      rw [hp, hsg, up_mkP _ _ (nameL_slash hnn), if_neg (by simp), kind_is hn (mkP_ne (by decide)) hm rfl]
      rfl
    · rw [hp]; exact hom j d pkgK hj (by decide)
    · rw [hp]; exact hom j d modK hj (by decide)
theorem imgU_load {s : Proj} (h : mayI s = true) : loadB (sortS (imgU s)) = true := by
  have hn := imgU_apart h
  have hp := sortS_perm (imgU s)
  have hN : (pathsF (sortS (imgU s))).Nodup := (hp.map File.path).nodup_iff.2 hn
  unfold loadB
  rw [goodL_of _ [] (by rw [List.nil_append]; exact hN) fun f hf => imgU_path h (hp.mem_iff.1 hf), Bool.true_and]
  refine homes_of fun p hpm => ?_
  obtain ⟨f, hf, rfl⟩ := List.mem_map.1 hpm
  rw [kindF_perm hn hp]
  exact imgU_home h (hp.mem_iff.1 hf)
theorem imgF_load {s : Proj} (h : mayI s = true) : loadB (imgF s).1 = true := by
  unfold imgF
  rw [if_pos h]
  split
  · rfl
  · exact imgU_load h

/-! ### lookups on it -/
theorem parseR_text {p : List ByteArray} (h : p.all nameB = true) : parseR (textB p) = (p, true) := by
  unfold parseR
  by_cases h0 : p = []
  · subst h0; exact if_pos (show textB [] = ⟨#[47]⟩ from rfl)
  · rw [if_neg (show ¬ textB p = ⟨#[47]⟩ from textB_ne h0 h)]
    have : pathOf (textB p) = some p := pathOf_some h0 h (by
      unfold textB
      rw [if_neg h0, if_pos h])
    rw [this]
theorem kind_file {s : Proj} (h : mayI s = true) {p : List ByteArray} (h0 : p ≠ []) (hp : p.all nameB = true) :
    (kindF (imgF s).1 (textB p) = 2 ∧ kindF (imgF s).1 (textB p ++ pkgW) = 1) ↔ 0 ≤ findI s.dirs p := by
  have hd := dirK_of (mayI_check h)
  have hfi : 0 ≤ findI s.dirs p ↔ ∃ (j : Nat) (d : Dir), s.dirs[j]? = some d ∧ d.path = p := by
    constructor
    · intro hf
      obtain ⟨j, hj⟩ : ∃ j : Nat, findI s.dirs p = (j : Int) := ⟨(findI s.dirs p).toNat, by omega⟩
      obtain ⟨h1, h2⟩ := findI_sound hj
      exact ⟨j, _, List.getElem?_eq_getElem h1, h2⟩
    · rintro ⟨j, d, hj, rfl⟩
      rcases Int.lt_or_le (findI s.dirs d.path) 0 with hl | hl
      · exact absurd rfl (findI_none hl (List.mem_of_getElem? hj))
      · exact hl
  by_cases he : emptyQ s = true
  · have e : (imgF s).1 = [] := by unfold imgF; rw [if_pos h, if_pos he]
    rw [e, hfi]
    constructor
    · rintro ⟨h1, _⟩
      rw [kindF_at (textB_ne h0 hp)] at h1
      cases h1
    · rintro ⟨j, d, hj, hdp⟩
      exfalso
      unfold emptyQ at he
      simp only [Bool.and_eq_true, decide_eq_true_eq] at he
      have hj' := (List.getElem?_eq_some_iff.1 hj).1
      have : j = 0 := by omega
      exact h0 (by rw [← hdp]; exact (hd j d hj).2.1 this)
  · have e : (imgF s).1 = sortS (imgU s) := by unfold imgF; rw [if_pos h, if_neg he]
    rw [e, kindF_perm (imgU_apart h) (sortS_perm _), kindF_perm (imgU_apart h) (sortS_perm _), kind_dir h h0 hp, hfi]
def dirZ : Dir := ⟨[], zeroPack, 0⟩
/-- what a lookup on a disk is to answer -/
noncomputable def diskA (t : List Dir) (at_ : Int) : ByteArray × Bool := if 0 ≤ at_ then (textB (t.getD at_.toNat dirZ).path, true) else (⟨#[]⟩, false)
theorem onDown_look {s : Proj} (h : mayI s = true) {p : List ByteArray} (hp : p.all nameB = true) {x : ByteArray} (hx : nameB x = true) : ∀ q, onDown (kindF (imgF s).1) p x q = diskA s.dirs (lookDown s.dirs p x q)
  | 0 => rfl
  | q + 1 => by
    have hq : (p.take q ++ [x]).all nameB = true := by
      rw [List.all_append, List.all_cons, hx]
      simp only [Bool.and_eq_true, List.all_nil, and_self, and_true]
      exact List.all_eq_true.2 fun y hy => List.all_eq_true.1 hp y (List.mem_of_mem_take hy)
    have hk := kind_file h (p := p.take q ++ [x]) (by simp) hq
    rw [onDown, lookDown]
    by_cases hf : 0 ≤ findI s.dirs (p.take q ++ [x])
    · rw [if_pos (hk.2 hf), decide_eq_true hf, cond_true]
      unfold diskA
      rw [if_pos hf]
      obtain ⟨j, hj⟩ : ∃ j : Nat, findI s.dirs (p.take q ++ [x]) = (j : Int) := ⟨(findI s.dirs (p.take q ++ [x])).toNat, by omega⟩
      obtain ⟨h1, h2⟩ := findI_sound hj
      rw [hj, Int.toNat_natCast, List.getD_eq_getElem?_getD, List.getElem?_eq_getElem h1, Option.getD_some, h2]
    · rw [if_neg (fun g => hf (hk.1 g)), decide_eq_false hf, cond_false]
      exact onDown_look h hp hx q
theorem onDisk_look {s : Proj} (h : mayI s = true) {i : Nat} {d : Dir} (hi : s.dirs[i]? = some d) (x : ByteArray) : onDisk (kindF (imgF s).1) (textB d.path) x = diskA s.dirs (lookI s.dirs (i : Int) x) := by
  have hK := dirK_of (mayI_check h) i d hi
  obtain ⟨hi', e⟩ := List.getElem?_eq_some_iff.1 hi
  unfold onDisk lookI
  rw [parseR_text hK.1, dif_pos ⟨by omega, by rw [Int.toNat_natCast]; exact hi'⟩]
  simp only [Int.toNat_natCast, e]
  cases hx : nameB x with
  | false => rfl
  | true =>
    rw [if_pos (by rfl)]
    exact onDown_look h hK.1 hx _

/-! ### which nodes directories are -/
theorem mapLoop_rng {t : List Dir} {g : List Node} (hf : formedB g = true) : ∀ {f : Nat} {s : MSt} {m : List Int}, MInv t.length g.length s → mapLoop t g f s = some m → ∀ x ∈ m, -1 ≤ x ∧ x < (g.length : Int)
  | 0, s, m, _, h => by rw [mapLoop] at h; cases h
  | f + 1, (m0, []), m, hi, h => by
    rw [mapLoop] at h
    cases h
    exact hi.rng
  | f + 1, (m0, a :: rest), m, hi, h => by
    rw [mapLoop] at h
    cases he : mapEdges t g a (edgesOf g (m0.getD a 0)) (m0, rest) with
    | none => rw [he] at h; cases h
    | some s' =>
      rw [he] at h
      have hi' : MInv t.length g.length (m0, rest) := ⟨hi.len, hi.rng, fun r hr => hi.rest r (by simp [hr])⟩
      exact mapLoop_rng hf (MInv.edges hi' (edgesOf_all hf _) he).1 h
theorem node_at {s : Proj} (h : mayI s = true) {i : Nat} {d : Dir} (hi : s.dirs[i]? = some d) : 0 ≤ d.node ∧ d.node < (s.nodes.length : Int) := by
  have hc := mayI_check h
  obtain ⟨hi', e⟩ := List.getElem?_eq_some_iff.1 hi
  have h2 := h
  unfold mayI placedB at h2
  simp only [Bool.and_eq_true, decide_eq_true_eq] at h2
  obtain ⟨_, hlk, h1, h3⟩ := h2
  obtain ⟨_, hfm, m, hm, hml⟩ := mapR_ok h1
  have hlo : 0 ≤ d.node := by
    by_cases h0 : i = 0
    · subst h0
      have h4 := checkE_ok hc
      match hs : s.dirs, hi, h4 with
      | x :: l, hi, h4 =>
        have hxd : x = d := Option.some.inj hi
        subst hxd
        rw [okGo, Bool.and_eq_true] at h4
        have h5 : rootB x = true := h4.1
        unfold rootB at h5
        simp only [Bool.and_eq_true, decide_eq_true_eq] at h5
        omega
    · have h4 := okGo_stands s.dirs s.dirs 0 (checkE_ok hc) i hi' (by omega)
      rw [Nat.zero_add, e] at h4
      unfold standsB at h4
      simp only [Bool.and_eq_true, decide_eq_true_eq] at h4
      omega
  refine ⟨hlo, ?_⟩
  have hrg : ∀ x ∈ m, -1 ≤ x ∧ x < (s.nodes.length : Int) := by
    have hml2 : mapLoop s.dirs s.nodes (s.dirs.length + 1) (map0 s.dirs.length) = some m := by
      unfold mapR at hm
      by_cases g1 : checkE s.dirs ≠ 0
      · exact absurd hc g1
      rw [if_neg g1] at hm
      rw [if_neg (by rw [hfm]; decide)] at hm
      cases hq : mapLoop s.dirs s.nodes (s.dirs.length + 1) (map0 s.dirs.length) with
      | none => rw [hq] at hm; cases hm
      | some m' => rw [hq] at hm; exact hm
    exact mapLoop_rng hfm (MInv.start (by have := (dirs_len hc).1; omega) (formed_edges hfm).1).1 hml2
  rw [hm, Option.getD_some] at h3
  have key : ∀ (l : List Dir) (k : Nat), placedGo s.dirs m k l = true → ∀ j d, l[j]? = some d → m.getD (k + j) 0 = d.node := by
    intro l
    induction l with
    | nil => intro k _ j d hd; cases hd
    | cons x l ih =>
      intro k hk j d hd
      rw [placedGo, Bool.and_eq_true] at hk
      cases j with
      | zero =>
        cases hd
        have := hk.1
        unfold placedAt at this
        simp only [Bool.and_eq_true, decide_eq_true_eq] at this
        exact this.1
      | succ j =>
        have := ih (k + 1) hk.2 j d hd
        rwa [show k + 1 + j = k + (j + 1) from by omega] at this
  have h5 := key s.dirs 0 h3 i d hi
  rw [Nat.zero_add, List.getD_eq_getElem?_getD, List.getElem?_eq_getElem (by omega), Option.getD_some] at h5
  rw [← h5]
  exact (hrg _ (List.getElem_mem _)).2
end Go.Proofs.YthbnmehbhpakaaaGreatDoor
