/- Rename, Remove, SyncDir, Read, List. No conditions but the counters' bounds. -/
import Derived.Test.YtmjlbpgngahgmaaVfs3
import Derived.Test.YtmjlbpgngahgmaaMaps1
namespace Go.Proofs.Ytmjlbpgngahgmaa
open Go.RowKit Go.MapKept

/-- A name is taken away. -/
def DK.remove (d : DK) (x : ByteArray) : Int × DK :=
  if mayE d.down [x] ≠ 0 then (mayE d.down [x], d) else
    match d.names x with
    | none => (11, d)
    | some _ => if d.stepE ≠ 0 then (d.stepE, d.step) else (0, { d.step with names := del d.step.names x })
/-- A file gets another name. -/
def DK.rename (d : DK) (x y : ByteArray) : Int × DK :=
  if mayE d.down [x, y] ≠ 0 then (mayE d.down [x, y], d) else
    match d.names x with
    | none => (11, d)
    | some m => if d.stepE ≠ 0 then (d.stepE, d.step) else (0, { d.step with names := upd (del d.step.names x) y m })
/-- The names are made sure. -/
def DK.syncDir (d : DK) : Int × DK :=
  if mayE d.down [] ≠ 0 then (mayE d.down [], d) else if d.stepE ≠ 0 then (d.stepE, d.step) else (0, { d.step with kept := d.step.names })
/-- A file's bytes. -/
def DK.read (d : DK) (x : ByteArray) : ByteArray × Int :=
  if mayE d.down [x] ≠ 0 then (⟨#[]⟩, mayE d.down [x]) else
    match d.names x with
    | none => (⟨#[]⟩, 11)
    | some m => (((d.files m).getD (⟨#[]⟩, 0)).1, 0)

set_option maxRecDepth 100000 in
set_option maxHeartbeats 2000000 in
theorem vfs_remove {w : World} {n B rf rn rk : Nat} {d : DK} (hD : DiskAt w n B rf rn rk d) (hn : n + 3 ≤ 1073741824) (x : ByteArray) :
    Calls Try.prog 21 #[.pointer (some ⟨B, 0, none⟩), .string x] w fun e w' => e = .returned (.int .i64 (d.remove x).1) ∧ DiskAt w' (n + 3) B rf rn rk (d.remove x).2 ∧ Keeps (fp4 B rf rn rk) w w' := by
  by_cases h1 : mayE d.down [x] = 0
  · have b1 : (mayE d.down [x] != 0) = false := by rw [h1]; rfl
    cases hm : d.names x with
    | none =>
      have hfin : d.remove x = (11, d) := by
        simp only [DK.remove, h1, hm, ne_eq, not_true_eq_false, if_false]
      have Hfin := Lib.hid hfin
      have Hm := Lib.hid hm
      clear hfin h1 hm
      go_enter Try.func21, Try.ntmps21
      go_wp2_with (go_at_call 37; refine (vfs_may1 (hD.keeps (S := Nil) ((Keeps.refl _ _).alloc _) (fun _ _ h => h)) _ _ x (by simp)).mono ?_; rintro e w1 ⟨rfl, hK1⟩; have hD1 := (hD.keeps (S := Nil) ((Keeps.refl _ _).alloc _) (fun _ _ h => h)).keeps hK1 (fun _ _ h => h); have c1 := hD1.c1; have hlk := hD1.names.lookup_none kS Try.underlying40 (zeroInt _) Hm.out)
      go_ret
      rw [Hfin.out]
      exact ⟨rfl, hD1.mono (by omega) hn, ((Keeps.refl (fp4 B rf rn rk) w).alloc _).trans hK1 (fun _ h _ => h.elim)⟩
    | some m =>
      have Hm := Lib.hid hm
      by_cases h2 : d.stepE = 0
      · have b2 : (d.stepE != 0) = false := by rw [h2]; rfl
        have hfin : d.remove x = (0, { d.step with names := del d.step.names x }) := by
          simp only [DK.remove, h1, hm, h2, ne_eq, not_true_eq_false, if_false]
        have Hfin := Lib.hid hfin
        clear hfin h1 h2 hm
        go_enter Try.func21, Try.ntmps21
        go_wp2_with (first
          | (go_at_call 37; refine (vfs_may1 (hD.keeps (S := Nil) ((Keeps.refl _ _).alloc _) (fun _ _ h => h)) _ _ x (by simp)).mono ?_; rintro e w1 ⟨rfl, hK1⟩; have hD1 := (hD.keeps (S := Nil) ((Keeps.refl _ _).alloc _) (fun _ _ h => h)).keeps hK1 (fun _ _ h => h); have c1 := hD1.c1; have hlk := hD1.names.lookup_some kS Try.underlying40 Hm.out)
          | (go_at_call 38; refine (vfs_step hD1 (by omega)).mono ?_; rintro e w2 ⟨rfl, hD2, hK2⟩; clear c1 hlk; have d1 := hD2.c1)
          | (at_delete; refine wpList_mapF_delete rfl (.tmp 35) (.tmp 36) rfl hD2.names kS Try.underlying40 rfl x rfl ?_; intro w3 hm3 hK3))
        go_ret
        rw [Hfin.out]
        exact ⟨rfl, (hD2.setNames (hm3.mono (Nat.le_succ _)) hK3 (by omega) (hD2.no.drop x) ((hD2.un.drop x).mono (Nat.le_succ _))).mono (by omega) hn, ((((Keeps.refl (fp4 B rf rn rk) w).alloc _).trans hK1 (fun _ h _ => h.elim)).trans hK2 inB).trans hK3 inN⟩
      · have b2 : (d.stepE != 0) = true := by rw [bne_iff_ne]; exact h2
        have hfin : d.remove x = (d.stepE, d.step) := by
          simp only [DK.remove, h1, hm, h2, ne_eq, not_true_eq_false, not_false_eq_true, if_false, if_true]
        have Hfin := Lib.hid hfin
        clear hfin h1 h2 hm
        go_enter Try.func21, Try.ntmps21
        go_wp2_with (first
          | (go_at_call 37; refine (vfs_may1 (hD.keeps (S := Nil) ((Keeps.refl _ _).alloc _) (fun _ _ h => h)) _ _ x (by simp)).mono ?_; rintro e w1 ⟨rfl, hK1⟩; have hD1 := (hD.keeps (S := Nil) ((Keeps.refl _ _).alloc _) (fun _ _ h => h)).keeps hK1 (fun _ _ h => h); have c1 := hD1.c1; have hlk := hD1.names.lookup_some kS Try.underlying40 Hm.out)
          | (go_at_call 38; refine (vfs_step hD1 (by omega)).mono ?_; rintro e w2 ⟨rfl, hD2, hK2⟩; clear c1 hlk))
        go_ret
        rw [Hfin.out]
        exact ⟨rfl, hD2.mono (by omega) hn, (((Keeps.refl (fp4 B rf rn rk) w).alloc _).trans hK1 (fun _ h _ => h.elim)).trans hK2 inB⟩
  · have b1 : (mayE d.down [x] != 0) = true := by rw [bne_iff_ne]; exact h1
    have hfin : d.remove x = (mayE d.down [x], d) := by
      simp only [DK.remove, h1, ne_eq, not_false_eq_true, if_true]
    have Hfin := Lib.hid hfin
    clear hfin h1
    go_enter Try.func21, Try.ntmps21
    go_wp2_with (go_at_call 37; refine (vfs_may1 (hD.keeps (S := Nil) ((Keeps.refl _ _).alloc _) (fun _ _ h => h)) _ _ x (by simp)).mono ?_; rintro e w1 ⟨rfl, hK1⟩)
    go_ret
    rw [Hfin.out]
    exact ⟨rfl, ((hD.keeps (S := Nil) ((Keeps.refl _ _).alloc _) (fun _ _ h => h)).keeps hK1 (fun _ _ h => h)).mono (by omega) hn, ((Keeps.refl (fp4 B rf rn rk) w).alloc _).trans hK1 (fun _ h _ => h.elim)⟩
set_option maxRecDepth 100000 in
set_option maxHeartbeats 2000000 in
theorem vfs_rename {w : World} {n B rf rn rk : Nat} {d : DK} (hD : DiskAt w n B rf rn rk d) (hn : n + 3 ≤ 1073741824) (x y : ByteArray) :
    Calls Try.prog 11 #[.pointer (some ⟨B, 0, none⟩), .string x, .string y] w fun e w' => e = .returned (.int .i64 (d.rename x y).1) ∧ DiskAt w' (n + 3) B rf rn rk (d.rename x y).2 ∧ Keeps (fp4 B rf rn rk) w w' := by
  by_cases h1 : mayE d.down [x, y] = 0
  · have b1 : (mayE d.down [x, y] != 0) = false := by rw [h1]; rfl
    have hy40 := mayE_name (x := y) (l := [x, y]) (by simp) (Or.inl h1)
    cases hm : d.names x with
    | none =>
      have hfin : d.rename x y = (11, d) := by
        simp only [DK.rename, h1, hm, ne_eq, not_true_eq_false, if_false]
      have Hfin := Lib.hid hfin
      have Hm := Lib.hid hm
      clear hfin h1 hm
      go_enter Try.func11, Try.ntmps11
      go_wp2_with (go_at_call 37; refine (vfs_may2 (hD.keeps (S := Nil) ((Keeps.refl _ _).alloc _) (fun _ _ h => h)) _ _ x y (by simp) (by simp)).mono ?_; rintro e w1 ⟨rfl, hK1⟩; have hD1 := (hD.keeps (S := Nil) ((Keeps.refl _ _).alloc _) (fun _ _ h => h)).keeps hK1 (fun _ _ h => h); have c1 := hD1.c1; have hlk := hD1.names.lookup_none kS Try.underlying40 (zeroInt _) Hm.out)
      go_ret
      rw [Hfin.out]
      exact ⟨rfl, hD1.mono (by omega) hn, ((Keeps.refl (fp4 B rf rn rk) w).alloc _).trans hK1 (fun _ h _ => h.elim)⟩
    | some m =>
      have Hm := Lib.hid hm
      by_cases h2 : d.stepE = 0
      · have b2 : (d.stepE != 0) = false := by rw [h2]; rfl
        have hfin : d.rename x y = (0, { d.step with names := upd (del d.step.names x) y m }) := by
          simp only [DK.rename, h1, hm, h2, ne_eq, not_true_eq_false, if_false]
        have Hfin := Lib.hid hfin
        clear hfin h1 h2 hm
        go_enter Try.func11, Try.ntmps11
        go_wp2_with (first
          | (go_at_call 37; refine (vfs_may2 (hD.keeps (S := Nil) ((Keeps.refl _ _).alloc _) (fun _ _ h => h)) _ _ x y (by simp) (by simp)).mono ?_; rintro e w1 ⟨rfl, hK1⟩; have hD1 := (hD.keeps (S := Nil) ((Keeps.refl _ _).alloc _) (fun _ _ h => h)).keeps hK1 (fun _ _ h => h); have c1 := hD1.c1; have hlk := hD1.names.lookup_some kS Try.underlying40 Hm.out)
          | (go_at_call 38; refine (vfs_step hD1 (by omega)).mono ?_; rintro e w2 ⟨rfl, hD2, hK2⟩; clear c1 hlk; have d1 := hD2.c1)
          | (at_delete; refine wpList_mapF_delete rfl (.tmp 38) (.tmp 39) rfl hD2.names kS Try.underlying40 rfl x rfl ?_; intro w3 hm3 hK3; have hD3 := hD2.setNames (hm3.mono (Nat.le_succ _)) hK3 (by omega) (hD2.no.drop x) ((hD2.un.drop x).mono (Nat.le_succ _)); have e1 := hD3.c1; clear d1)
          | (at_mapUpdate; refine wpList_mapF_update rfl (.tmp 43) (.tmp 44) (.tmp 45) rfl hm3 kS Try.underlying40 rfl y m rfl rfl ?_; intro w4 hm4 hK4))
        go_ret
        rw [Hfin.out]
        exact ⟨rfl, hD3.setNames (hm4.mono (by omega)) hK4 (by omega) (hD3.no.put hy40 m) (hD3.un.put _ _), (((((Keeps.refl (fp4 B rf rn rk) w).alloc _).trans hK1 (fun _ h _ => h.elim)).trans hK2 inB).trans hK3 inN).trans hK4 inN⟩
      · have b2 : (d.stepE != 0) = true := by rw [bne_iff_ne]; exact h2
        have hfin : d.rename x y = (d.stepE, d.step) := by
          simp only [DK.rename, h1, hm, h2, ne_eq, not_true_eq_false, not_false_eq_true, if_false, if_true]
        have Hfin := Lib.hid hfin
        clear hfin h1 h2 hm
        go_enter Try.func11, Try.ntmps11
        go_wp2_with (first
          | (go_at_call 37; refine (vfs_may2 (hD.keeps (S := Nil) ((Keeps.refl _ _).alloc _) (fun _ _ h => h)) _ _ x y (by simp) (by simp)).mono ?_; rintro e w1 ⟨rfl, hK1⟩; have hD1 := (hD.keeps (S := Nil) ((Keeps.refl _ _).alloc _) (fun _ _ h => h)).keeps hK1 (fun _ _ h => h); have c1 := hD1.c1; have hlk := hD1.names.lookup_some kS Try.underlying40 Hm.out)
          | (go_at_call 38; refine (vfs_step hD1 (by omega)).mono ?_; rintro e w2 ⟨rfl, hD2, hK2⟩; clear c1 hlk))
        go_ret
        rw [Hfin.out]
        exact ⟨rfl, hD2.mono (by omega) hn, (((Keeps.refl (fp4 B rf rn rk) w).alloc _).trans hK1 (fun _ h _ => h.elim)).trans hK2 inB⟩
  · have b1 : (mayE d.down [x, y] != 0) = true := by rw [bne_iff_ne]; exact h1
    have hfin : d.rename x y = (mayE d.down [x, y], d) := by
      simp only [DK.rename, h1, ne_eq, not_false_eq_true, if_true]
    have Hfin := Lib.hid hfin
    clear hfin h1
    go_enter Try.func11, Try.ntmps11
    go_wp2_with (go_at_call 37; refine (vfs_may2 (hD.keeps (S := Nil) ((Keeps.refl _ _).alloc _) (fun _ _ h => h)) _ _ x y (by simp) (by simp)).mono ?_; rintro e w1 ⟨rfl, hK1⟩)
    go_ret
    rw [Hfin.out]
    exact ⟨rfl, ((hD.keeps (S := Nil) ((Keeps.refl _ _).alloc _) (fun _ _ h => h)).keeps hK1 (fun _ _ h => h)).mono (by omega) hn, ((Keeps.refl (fp4 B rf rn rk) w).alloc _).trans hK1 (fun _ h _ => h.elim)⟩

set_option maxRecDepth 100000 in
set_option maxHeartbeats 2000000 in
theorem vfs_syncDir {w : World} {n B rf rn rk : Nat} {d : DK} (hD : DiskAt w n B rf rn rk d) (hn : n + 3 ≤ 1073741824) :
    Calls Try.prog 23 #[.pointer (some ⟨B, 0, none⟩)] w fun e w' => ∃ rk', e = .returned (.int .i64 d.syncDir.1) ∧ DiskAt w' (n + 3) B rf rn rk' d.syncDir.2 ∧ Keeps (fp4 B rf rn rk) w w' ∧ (rk' = rk ∨ w.heap.size ≤ rk') := by
  by_cases h1 : mayE d.down [] = 0
  · have b1 : (mayE d.down [] != 0) = false := by rw [h1]; rfl
    by_cases h2 : d.stepE = 0
    · have b2 : (d.stepE != 0) = false := by rw [h2]; rfl
      have hfin : d.syncDir = (0, { d.step with kept := d.step.names }) := by
        simp only [DK.syncDir, h1, h2, ne_eq, not_true_eq_false, if_false]
      have Hfin := Lib.hid hfin
      clear hfin h1 h2
      go_enter Try.func23, Try.ntmps23
      go_wp2_with (first
        | (go_at_call 37; refine (vfs_may0 hD).mono ?_; rintro e w1 ⟨rfl, hK1⟩; have hD1 := hD.keeps hK1 (fun _ _ h => h))
        | (go_at_call 38; refine (vfs_step hD1 (by omega)).mono ?_; rintro e w2 ⟨rfl, hD2, hK2⟩; have d1 := hD2.c1)
        | (go_at_call 49; refine (maps_clone hD2.names).mono ?_; rintro e w3 ⟨rfl, hm3, hK3⟩; have hD3 := hD2.keeps hK3 (fun _ _ h => h); have d2 := hD3.c2; have f2 := hD3.blk.frozen 2))
      go_ret
      rw [Hfin.out]
      have hsz := hK3.size
      have hlt := hD2.lt
      have kB : Keeps (One B) w3 (w3.setCell ⟨B, 2, none⟩ (.map (some w2.heap.size))) := (Keeps.refl (One B) w3).setCell (p := ⟨B, 2, none⟩) (.inl rfl) _
      have hfn := hlt rf (.inr (.inl rfl))
      have hnn := hlt rn (.inr (.inr (.inl rfl)))
      have hBB := hlt B (.inl rfl)
      refine ⟨w2.heap.size, rfl, ⟨hD3.blk.set_ 2 _, (hD3.files.keeps kB (fun e => hD3.bf e.symm)).mono (by omega), (hD3.names.keeps kB (fun e => hD3.bn e.symm)).mono (by omega), (hm3.keeps kB (fun e => by cases e; omega)).mono (by omega), hD3.fn, by omega, by omega, (hD3.ok.mono (by omega) hn).of rfl rfl rfl, hD3.fs.mono (by omega), hD3.no, hD3.no, hD3.un.same.mono (by omega)⟩, ?_, .inr (Nat.le_trans hK1.size hK2.size)⟩
      exact ((((Keeps.refl (fp4 B rf rn rk) w).trans hK1 (fun _ h _ => h.elim)).trans hK2 inB).trans hK3 (fun _ h _ => h.elim)).trans kB inB
    · have b2 : (d.stepE != 0) = true := by rw [bne_iff_ne]; exact h2
      have hfin : d.syncDir = (d.stepE, d.step) := by
        simp only [DK.syncDir, h1, h2, ne_eq, not_true_eq_false, not_false_eq_true, if_false, if_true]
      have Hfin := Lib.hid hfin
      clear hfin h1 h2
      go_enter Try.func23, Try.ntmps23
      go_wp2_with (first
        | (go_at_call 37; refine (vfs_may0 hD).mono ?_; rintro e w1 ⟨rfl, hK1⟩; have hD1 := hD.keeps hK1 (fun _ _ h => h))
        | (go_at_call 38; refine (vfs_step hD1 (by omega)).mono ?_; rintro e w2 ⟨rfl, hD2, hK2⟩))
      go_ret
      rw [Hfin.out]
      exact ⟨rk, rfl, hD2.mono (by omega) hn, ((Keeps.refl (fp4 B rf rn rk) w).trans hK1 (fun _ h _ => h.elim)).trans hK2 inB, .inl rfl⟩
  · have b1 : (mayE d.down [] != 0) = true := by rw [bne_iff_ne]; exact h1
    have hfin : d.syncDir = (mayE d.down [], d) := by
      simp only [DK.syncDir, h1, ne_eq, not_false_eq_true, if_true]
    have Hfin := Lib.hid hfin
    clear hfin h1
    go_enter Try.func23, Try.ntmps23
    go_wp2_with (go_at_call 37; refine (vfs_may0 hD).mono ?_; rintro e w1 ⟨rfl, hK1⟩)
    go_ret
    rw [Hfin.out]
    exact ⟨rk, rfl, (hD.keeps hK1 (fun _ _ h => h)).mono (by omega) hn, (Keeps.refl (fp4 B rf rn rk) w).trans hK1 (fun _ h _ => h.elim), .inl rfl⟩

theorem field_file (p : ByteArray × Int) (W : World) : (Instr.field 66 (.agg #[.string p.1, .int .i64 p.2]) 0).run Try.prog W = .ok (.string p.1) W := by kernel_rfl

set_option maxRecDepth 100000 in
set_option maxHeartbeats 1000000 in
theorem vfs_read {w : World} {n B rf rn rk : Nat} {d : DK} (hD : DiskAt w n B rf rn rk d) (x : ByteArray) :
    Calls Try.prog 12 #[.pointer (some ⟨B, 0, none⟩), .string x] w fun e w' => e = .returned (.tuple #[.string (d.read x).1, .int .i64 (d.read x).2]) ∧ Keeps Nil w w' := by
  by_cases h1 : mayE d.down [x] = 0
  · have b1 : (mayE d.down [x] != 0) = false := by rw [h1]; rfl
    cases hm : d.names x with
    | none =>
      have hfin : d.read x = (⟨#[]⟩, 11) := by
        simp only [DK.read, h1, hm, ne_eq, not_true_eq_false, if_false]
      have Hfin := Lib.hid hfin
      have Hm := Lib.hid hm
      clear hfin h1 hm
      go_enter Try.func12, Try.ntmps12
      go_wp2_with (go_at_call 37; refine (vfs_may1 (hD.keeps (S := Nil) ((Keeps.refl _ _).alloc _) (fun _ _ h => h)) _ _ x (by simp)).mono ?_; rintro e w1 ⟨rfl, hK1⟩; have hD1 := (hD.keeps (S := Nil) ((Keeps.refl _ _).alloc _) (fun _ _ h => h)).keeps hK1 (fun _ _ h => h); have c1 := hD1.c1; have hlk := hD1.names.lookup_none kS Try.underlying40 (zeroInt _) Hm.out)
      go_ret2
      rw [Hfin.out]
      exact ⟨rfl, ((Keeps.refl Nil w).alloc _).same hK1⟩
    | some m =>
      have hfin : d.read x = (((d.files m).getD (⟨#[]⟩, 0)).1, 0) := by
        simp only [DK.read, h1, hm, ne_eq, not_true_eq_false, if_false]
      have Hfin := Lib.hid hfin
      have Hm := Lib.hid hm
      clear hfin h1 hm
      go_enter Try.func12, Try.ntmps12
      go_wp2_with (go_at_call 37; refine (vfs_may1 (hD.keeps (S := Nil) ((Keeps.refl _ _).alloc _) (fun _ _ h => h)) _ _ x (by simp)).mono ?_; rintro e w1 ⟨rfl, hK1⟩; have hD1 := (hD.keeps (S := Nil) ((Keeps.refl _ _).alloc _) (fun _ _ h => h)).keeps hK1 (fun _ _ h => h); have c1 := hD1.c1; have c0 := hD1.c0; have hlk := hD1.names.lookup_some kS Try.underlying40 Hm.out; have hget := hD1.files.get kI Try.underlying39 (zeroFile _) m; unfold fileV at hget; have hfd := field_file ((d.files m).getD (⟨#[]⟩, 0)))
      go_ret2
      rw [Hfin.out]
      exact ⟨rfl, ((Keeps.refl Nil w).alloc _).same hK1⟩
  · have b1 : (mayE d.down [x] != 0) = true := by rw [bne_iff_ne]; exact h1
    have hfin : d.read x = (⟨#[]⟩, mayE d.down [x]) := by
      simp only [DK.read, h1, ne_eq, not_false_eq_true, if_true]
    have Hfin := Lib.hid hfin
    clear hfin h1
    go_enter Try.func12, Try.ntmps12
    go_wp2_with (go_at_call 37; refine (vfs_may1 (hD.keeps (S := Nil) ((Keeps.refl _ _).alloc _) (fun _ _ h => h)) _ _ x (by simp)).mono ?_; rintro e w1 ⟨rfl, hK1⟩)
    go_ret2
    rw [Hfin.out]
    exact ⟨rfl, ((Keeps.refl Nil w).alloc _).same hK1⟩

/-- A slice of the call's own that holds texts. -/
def OwnTexts (w : World) (base : Nat) (v : Value) (l : List ByteArray) : Prop := w.ownsRow base 9 1 v l.length (l.map Value.string)

/-- List's answer. -/
def DK.Lists (d : DK) (l : List ByteArray) : Prop := if d.down then l = [] else KeyList d.names l

set_option maxHeartbeats 1000000 in
theorem vfs_list {w : World} {n B rf rn rk : Nat} {d : DK} (hD : DiskAt w n B rf rn rk d) :
    Calls Try.prog 15 #[.pointer (some ⟨B, 0, none⟩)] w fun e w' => ∃ (v : Value) (l : List ByteArray), e = .returned v ∧ d.Lists l ∧ l.length ≤ n ∧ OwnTexts w' w.heap.size v l ∧ Keeps Nil w w' := by
  have h7 := hD.c7
  have h1 := hD.c1
  cases hdn : d.down with
  | true =>
    rw [hdn] at h7
    have Hdn := Lib.hid hdn
    clear hdn
    go_enter Try.func15, Try.ntmps15
    go_wp2
    go_ret
    exact ⟨_, [], rfl, by simp [DK.Lists, Hdn.out], Nat.zero_le _, ⟨by simp, .inl ⟨rfl, rfl⟩⟩, Keeps.refl _ _⟩
  | false =>
    rw [hdn] at h7
    have Hdn := Lib.hid hdn
    clear hdn
    have hn := hD.ok.n1
    obtain ⟨D, hown, hf⟩ := mapF_owns hD.names Try.underlying9 (fun k hk => by have := hD.no k hk; unfold maxLen; omega) (by unfold maxLen; omega)
    go_enter Try.func15, Try.ntmps15
    go_wp2_with (first
      | (go_at_call 42; refine (maps_keys _ _).mono ?_; rintro e w1 ⟨rfl, rfl⟩)
      | (go_at_call 41; refine (sorted_keys hown hf (by omega)).mono ?_; rintro e w2 ⟨v, l, rfl, hl, hlen, hrow, hK⟩))
    go_ret
    exact ⟨v, l, rfl, by simp [DK.Lists, Hdn.out, hl], hlen, hrow, hK⟩
end Go.Proofs.Ytmjlbpgngahgmaa
