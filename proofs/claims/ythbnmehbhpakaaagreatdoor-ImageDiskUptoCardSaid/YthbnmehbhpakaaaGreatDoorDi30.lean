/-
  A lookup on a disk: the program's walkup.OnDisk, walked.
  Which files a project has, file by file.
-/
import Derived.Test.YthbnmehbhpakaaaGreatDoorDi28
import Derived.Test.YthbnmehbhpakaaaGreatDoorDi18
import Derived.Test.YthbnmehbhpakaaaGreatDoorDi27
set_option autoImplicit false
set_option relaxedAutoImplicit false
set_option linter.unusedVariables false
set_option linter.unusedSimpArgs false
namespace Go.Proofs.YthbnmehbhpakaaaGreatDoor
open Go.Rows Go.RowKit Go.Shelf

def pkgW : ByteArray := ⟨#[47, 112, 97, 99, 107, 97, 103, 101]⟩
/-- a lookup from a path of whose names the first q are left -/
noncomputable def onDown (kind : ByteArray → Int) (path : List ByteArray) (s : ByteArray) : Nat → ByteArray × Bool
  | 0 => (⟨#[]⟩, false)
  | q + 1 => if kind (textB (path.take q ++ [s])) = 2 ∧ kind (textB (path.take q ++ [s]) ++ pkgW) = 1 then (textB (path.take q ++ [s]), true) else onDown kind path s q
noncomputable def onDisk (kind : ByteArray → Int) (frm s : ByteArray) : ByteArray × Bool :=
  if ((parseR frm).2 && nameB s) = true then onDown kind (parseR frm).1 s ((parseR frm).1.length + 1) else (⟨#[]⟩, false)

theorem ret_strB {a : ByteArray} {z : Bool} {R : ByteArray × Bool} (h : R = (a, z)) : Ending.returned (.tuple #[.string a, .bool z]) = .returned (.tuple #[.string R.1, .bool R.2]) := by rw [h]
set_option maxHeartbeats 3200000 in
set_option maxRecDepth 100000 in
theorem onDisk_any (d B : Nat) (rv zv : Value) (l : List File) (frm s : ByteArray) (w : World) (hf : frm.size ≤ 1048576) (hs : s.size ≤ 1048576) (hm : MaxL w)
    (hlen : (parseR frm).1.length ≤ 1048577) (htz : ∀ q, (textB ((parseR frm).1.take q ++ [s])).size ≤ 67108864)
    (hd : w.cell? ⟨d, 0, none⟩ = some (.map (some B))) (hdz : d < w.heap.size) (hl : ThingsM w B l) :
    Calls Tryz.prog 20 #[.pointer (some ⟨d, 0, none⟩), .string frm, .string s] w fun e w' => e = .returned (.tuple #[.string (onDisk (kindF l) frm s).1, .bool (onDisk (kindF l) frm s).2]) ∧ Below w.heap.size w w' := by
  have HP := Lib.hid (parse_any frm w (by omega) hm)
  have HN := Lib.hid (fun W => scanName_any s (by unfold maxLen; omega) W)
  have HK : Hid (∀ W p, Below w.heap.size w W → p.size ≤ maxLen → Calls Tryz.prog 59 #[.pointer (some ⟨d, 0, none⟩), .string p] W fun e w' => e = .returned (.int .i64 (kindF l p)) ∧ Below W.heap.size W w') := fun W p hW hp =>
    diskKind_any d B rv zv l p W hp (below_cell hW hd hdz) (hl.keep hW)
  obtain ⟨R, hR⟩ : ∃ R, R = onDisk (kindF l) frm s := ⟨_, rfl⟩
  rw [← hR]
  unfold onDisk at hR
  have HR := Lib.hid hR
  have Htz := Lib.hid htz
  clear hR hm hd hl htz
  obtain ⟨path, hpath⟩ : ∃ path, path = (parseR frm).1 := ⟨_, rfl⟩
  obtain ⟨ok, hok⟩ : ∃ ok, ok = (parseR frm).2 := ⟨_, rfl⟩
  rw [← hpath, ← hok] at HR HP
  rw [← hpath] at Htz hlen
  clear hpath hok
  go_enter Tryz.func20, Tryz.ntmps20
  go_wp2_with fail
  refine HP.out.mono ?_
  rintro e w1 ⟨⟨v, rfl, hv⟩, hb⟩
  have HB1 := Lib.hid hb
  obtain ⟨pA, pc, rfl, hpl, hpm⟩ := hv.val
  have HV := Lib.hid hv
  clear hv hb HP
  cases ok with
  | false =>
    have hr : Hid (R = (⟨#[]⟩, false)) := by unfold Hid; rw [HR.out, Bool.false_and]; rfl
    clear HR
    go_wp2_with fail
    go_ret2
    exact ⟨ret_strB hr.out, HB1.out⟩
  | true =>
    cases hnb : nameB s with
    | false =>
      have hr : Hid (R = (⟨#[]⟩, false)) := by unfold Hid; rw [HR.out, hnb]; rfl
      rw [hnb] at HN
      clear HR hnb
      go_wp2_with fail
      refine (HN.out _).mono ?_
      rintro e w2 ⟨rfl, hb2⟩
      have HB2 := Lib.hid (bot HB1.out hb2)
      go_wp2_with fail
      go_ret2
      exact ⟨ret_strB hr.out, HB2.out⟩
    | true =>
    have HR1 : Hid (R = onDown (kindF l) path s (path.length + 1)) := by unfold Hid; rw [HR.out, hnb]; rfl
    rw [hnb] at HN
    clear HR hnb
    obtain ⟨n, hn⟩ : ∃ n, n = path.length := ⟨_, rfl⟩
    rw [← hn] at HR1 HV hlen hpl ⊢
    have Hn := Lib.hid hn
    clear hn
    unfold maxLen at hpm
    go_wp2_with fail
    refine (HN.out _).mono ?_
    rintro e w2 ⟨rfl, hb2⟩
    have HB2 := Lib.hid (bot HB1.out hb2)
    have HV2 := Lib.hid (HV.out.belowSize hb2)
    clear hb2 HB1 HV HN
    go_wp2_with fail
    go_loopw [10] (fun i wr => ((i = .int .i64 (-1) ∧ Hid (R = (⟨#[]⟩, false))) ∨ ∃ q : Nat, q ≤ n ∧ i = .int .i64 q ∧ Hid (R = onDown (kindF l) path s (q + 1))) ∧ Hid (Below w2.heap.size w2 wr)) (fun i _ => (intOf i + 1).toNat)
    case atStart => exact ⟨.inr ⟨n, Nat.le_refl _, rfl, HR1⟩, Below.refl _ _⟩
    case round =>
      obtain ⟨hor, hbel⟩ := hrel
      rcases hor with ⟨rfl, He⟩ | ⟨q, hq, rfl, HRq⟩
      · go_wp2_with fail
        go_ret2
        exact ⟨ret_strB He.out, bot HB2.out hbel.out⟩
      · have hq0 : (0 : Int) ≤ (q : Int) := by omega
        have hqc : (q : Int) ≤ (pc : Int) := by omega
        go_wp2_with fail
        refine (joined_any pA q pc (path.take q) s wr _ (by unfold maxLen; omega) (by rw [List.length_take]; omega) (SlV.take (HV2.out.belowSize hbel.out) (by rw [← Hn.out]; exact hq))).mono ?_
        rintro e w3 ⟨v, rfl, hv3, hb3⟩
        obtain ⟨vA, vc, rfl, _, _⟩ := hv3.val
        have hv3' := hv3.more (S' := fun b => b < w3.heap.size) fun b _ h => h
        have HT := Lib.hid (treeText_any _ _ _ (path.take q ++ [s]) w3 _ (fun b h => h) (by rw [List.length_append, List.length_take]; simp; omega) hv3')
        have htq := Htz.out q
        have hst : onDown (kindF l) path s (q + 1) = if kindF l (textB (path.take q ++ [s])) = 2 ∧ kindF l (textB (path.take q ++ [s]) ++ pkgW) = 1 then (textB (path.take q ++ [s]), true) else onDown (kindF l) path s q := rfl
        have HRs := Lib.hid (HRq.out.trans hst)
        have HB3 := Lib.hid (bot hbel.out hb3)
        clear hv3 hv3' hb3 hbel HRq hst
        generalize textB (path.take q ++ [s]) = T at *
        generalize (path.take q ++ [s]).length = tn at *
        go_wp2_with fail
        refine HT.out.mono ?_
        rintro e w4 ⟨rfl, hb4⟩
        have HB4 := Lib.hid (bot HB3.out hb4)
        have E1 : ∀ W : World, (Op.stringOp .add T ⟨#[47, 112, 97, 99, 107, 97, 103, 101]⟩).run Tryz.prog W = .ok (.string (T ++ pkgW)) W := fun W => run_string_add_sum W T pkgW (by rw [show pkgW.size = 8 from rfl]; omega)
        clear hb4 HB3 HT
        go_wp2_with fail
        have hwm : IntKind.i64.wrap ((q : Int) - 1) = (q : Int) - 1 := IntWalk.i64_in _ ⟨by omega, by omega⟩
        refine (HK.out _ T (bot HB2.out HB4.out) (by unfold maxLen; omega)).mono ?_
        rintro e w5 ⟨rfl, hb5⟩
        have HB5 := Lib.hid (bot HB4.out hb5)
        clear hb5 HB4
        have hnext : Hid (R = onDown (kindF l) path s q) → ((Value.int .i64 ((q : Int) - 1) = .int .i64 (-1) ∧ Hid (R = (⟨#[]⟩, false))) ∨ ∃ q' : Nat, q' ≤ n ∧ Value.int .i64 ((q : Int) - 1) = .int .i64 q' ∧ Hid (R = onDown (kindF l) path s (q' + 1))) := fun He => by
          by_cases hq00 : q = 0
          · exact .inl ⟨by simp [hq00], by unfold Hid; rw [He.out, hq00]; rfl⟩
          · obtain ⟨q', rfl⟩ : ∃ q', q = q' + 1 := ⟨q - 1, by omega⟩
            exact .inr ⟨q', by omega, by congr 1; omega, He⟩
        have Hnext := Lib.hid hnext
        clear hnext
        by_cases h2 : kindF l T = 2
        case neg =>
          have h2b : (kindF l T == 2) = false := by simpa using h2
          have He : Hid (R = onDown (kindF l) path s q) := by unfold Hid; rw [HRs.out, if_neg (fun h => h2 h.1)]
          have hx := Hnext.out He
          clear h2 HRs
          go_wp2_with fail
          go_roundw
          case rel => exact ⟨hx, HB5⟩
          case measure => simp [intOf]
        have h2b : (kindF l T == 2) = true := by simpa using h2
        go_wp2_with fail
        refine (HK.out _ (T ++ pkgW) (bot HB2.out HB5.out) (by rw [ByteArray.size_append, show pkgW.size = 8 from rfl]; unfold maxLen; omega)).mono ?_
        rintro e w6 ⟨rfl, hb6⟩
        have HB6 := Lib.hid (bot HB5.out hb6)
        clear hb6 HB5
        by_cases h3 : kindF l (T ++ pkgW) = 1
        · have h3b : (kindF l (T ++ pkgW) == 1) = true := by simpa using h3
          have He : Hid (R = (T, true)) := by unfold Hid; rw [HRs.out, if_pos ⟨h2, h3⟩]
          clear h2 h3 HRs
          go_wp2_with fail
          go_ret2
          exact ⟨ret_strB He.out, bot HB2.out HB6.out⟩
        · have h3b : (kindF l (T ++ pkgW) == 1) = false := by simpa using h3
          have He : Hid (R = onDown (kindF l) path s q) := by unfold Hid; rw [HRs.out, if_neg (fun h => h3 h.2)]
          have hx := Hnext.out He
          clear h2 h3 HRs
          go_wp2_with fail
          go_roundw
          case rel => exact ⟨hx, HB6⟩
          case measure => simp [intOf]
end Go.Proofs.YthbnmehbhpakaaaGreatDoor
set_option autoImplicit false
set_option relaxedAutoImplicit false
set_option linter.unusedVariables false
set_option linter.unusedSimpArgs false
namespace Go.Proofs.YthbnmehbhpakaaaGreatDoor
open Go

/-! ### which files there are -/
theorem imgDirs_mem {xs : List Dir} : ∀ {l : List Dir} {i : Nat} {f : File}, f ∈ imgDirs xs i l ↔ ∃ j d, l[j]? = some d ∧ f ∈ imgDir xs (i + j) d
  | [], i, f => by
    constructor
    · intro h; cases h
    · rintro ⟨j, d, h, _⟩; simp at h
  | d :: l, i, f => by
    rw [imgDirs, List.mem_append, imgDirs_mem]
    constructor
    · rintro (h | ⟨j, e, he, h⟩)
      · exact ⟨0, d, rfl, h⟩
      · exact ⟨j + 1, e, he, by rwa [show i + (j + 1) = i + 1 + j from by omega]⟩
    · rintro ⟨j, e, he, h⟩
      cases j with
      | zero =>
        have he' : d = e := by simpa using he
        subst he'
        exact .inl h
      | succ j => exact .inr ⟨j, e, he, by rwa [show i + 1 + j = i + (j + 1) from by omega]⟩
def FileOf (s : Proj) (f : File) : Prop :=
  (∃ x, (x = manK ∨ x = lokK ∨ x = pruK) ∧ f.path = mkP [x] ∧ f.dir = false) ∨
  (∃ j d, s.dirs[j]? = some d ∧ ((j ≠ 0 ∧ f.path = mkP (segs d.path) ∧ f.dir = true ∧ f.data = emB) ∨ (j ≠ 0 ∧ f.path = mkP (segs d.path ++ [pkgK]) ∧ f.dir = false) ∨
    (insideL s.dirs j ≠ [] ∧ f.path = mkP (segs d.path ++ [modK]) ∧ f.dir = true ∧ f.data = emB)))
theorem key_man : manF = mkP [manK] := by apply ByteArray.ext; decide +kernel
theorem key_lok : lokF = mkP [lokK] := by apply ByteArray.ext; decide +kernel
theorem key_pru : pruF = mkP [pruK] := by apply ByteArray.ext; decide +kernel
theorem key_mod : modF = mkP [modK] := by apply ByteArray.ext; decide +kernel
theorem key_pkg : pkgF = mkP [pkgK] := by apply ByteArray.ext; decide +kernel
theorem key_home {p : List ByteArray} (h0 : p ≠ []) (h : p.all nameB = true) (x : List UInt8) : textB p ++ mkP [x] = mkP (segs p ++ [x]) := by rw [mkP_append, textB_segs h0 h]
theorem imgU_cases {s : Proj} (hd : ∀ j d, s.dirs[j]? = some d → DirK j d) {f : File} (hf : f ∈ imgU s) : FileOf s f := by
  unfold imgU at hf
  rcases List.mem_append.1 hf with hf | hf
  · rcases List.mem_cons.1 hf with rfl | hf
    · exact .inl ⟨manK, .inl rfl, key_man, rfl⟩
    · rw [List.mem_singleton.1 hf]
      exact .inl ⟨lokK, .inr (.inl rfl), key_lok, rfl⟩
  rcases List.mem_append.1 hf with hf | hf
  · split at hf
    · rw [List.mem_singleton.1 hf]
      exact .inl ⟨pruK, .inr (.inr rfl), key_pru, rfl⟩
    · cases hf
  obtain ⟨j, d, hj, h⟩ := imgDirs_mem.1 hf
  rw [Nat.zero_add] at h
  have hK := hd j d hj
  refine .inr ⟨j, d, hj, ?_⟩
  unfold imgDir at h
  rcases List.mem_append.1 h with h | h
  · split at h
    · cases h
    rename_i h0
    have hp : d.path ≠ [] := fun e => h0 (hK.2.2 e)
    rcases List.mem_cons.1 h with rfl | h
    · exact .inl ⟨h0, textB_segs hp hK.1, rfl, rfl⟩
    · rw [List.mem_singleton.1 h]
      refine .inr (.inl ⟨h0, ?_, rfl⟩)
      show textB d.path ++ pkgF = _
      rw [key_pkg, key_home hp hK.1]
  · split at h
    · cases h
    rename_i h1
    rw [List.mem_singleton.1 h]
    refine .inr (.inr ⟨h1, ?_, rfl, rfl⟩)
    show (if j = 0 then modF else textB d.path ++ modF) = _
    split
    · rename_i h0
      rw [hK.2.1 h0, key_mod]; rfl
    · rename_i h0
      have hp : d.path ≠ [] := fun e => h0 (hK.2.2 e)
      rw [key_mod, key_home hp hK.1]
theorem imgU_dir {s : Proj} (hd : ∀ j d, s.dirs[j]? = some d → DirK j d) {j : Nat} {d : Dir} (hj : s.dirs[j]? = some d) (h0 : j ≠ 0) :
    (⟨mkP (segs d.path), true, emB⟩ : File) ∈ imgU s ∧ (⟨mkP (segs d.path ++ [pkgK]), false, packText d.pack⟩ : File) ∈ imgU s := by
  have hK := hd j d hj
  have hp : d.path ≠ [] := fun e => h0 (hK.2.2 e)
  have hm : ∀ f ∈ imgDir s.dirs j d, f ∈ imgU s := fun f hf => by
    unfold imgU
    exact List.mem_append.2 (.inr (List.mem_append.2 (.inr (imgDirs_mem.2 ⟨j, d, hj, by rw [Nat.zero_add]; exact hf⟩))))
  rw [← textB_segs hp hK.1, ← key_home hp hK.1, ← key_pkg]
  refine ⟨hm _ ?_, hm _ ?_⟩ <;> (unfold imgDir; rw [if_neg h0]; simp)
theorem imgU_mod {s : Proj} (hd : ∀ j d, s.dirs[j]? = some d → DirK j d) {j : Nat} {d : Dir} (hj : s.dirs[j]? = some d) (h1 : insideL s.dirs j ≠ []) :
    (⟨mkP (segs d.path ++ [modK]), true, emB⟩ : File) ∈ imgU s := by
  have hK := hd j d hj
  unfold imgU
  refine List.mem_append.2 (.inr (List.mem_append.2 (.inr (imgDirs_mem.2 ⟨j, d, hj, ?_⟩))))
  rw [Nat.zero_add]
  unfold imgDir
  refine List.mem_append.2 (.inr ?_)
  rw [if_neg h1, List.mem_singleton]
  congr 1
  split
  · rename_i h0
    rw [hK.2.1 h0, key_mod]; rfl
  · rename_i h0
    have hp : d.path ≠ [] := fun e => h0 (hK.2.2 e)
    rw [key_mod, key_home hp hK.1]

end Go.Proofs.YthbnmehbhpakaaaGreatDoor
