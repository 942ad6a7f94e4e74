/- The changes of a disk: Create, Append, Sync, Rename, Remove, SyncDir. No conditions but the counters' bounds. -/
import Derived.Test.YtmjlbpgngahgmaaVfs2
import Derived.StillTailTactics
import Derived.Deep.RegionHeld3
namespace Go.Proofs.Ytmjlbpgngahgmaa
open Go.RowKit Go.MapKept

theorem kI : KeyK Try.prog 3 (Value.int .i64) := keyK_int Try.underlying3
theorem kS : KeyK Try.prog 9 Value.string := keyK_string Try.underlying9

theorem nameB_le {x : ByteArray} (h : nameB x = true) : x.size ≤ 40 := by
  simp only [nameB, Bool.and_eq_true, decide_eq_true_eq] at h
  exact h.1.2
theorem mayE_name {dn : Bool} {l : List ByteArray} {x : ByteArray} (hx : x ∈ l) (h : mayE dn l = 0 ∨ mayE dn l = 15) : x.size ≤ 40 := by
  unfold mayE at h
  split at h
  · rename_i ha
    exact nameB_le (List.all_eq_true.1 ha x hx)
  · rcases h with h | h <;> exact absurd h (by decide)

theorem inB {B rf rn rk m : Nat} : ∀ b, One B b → b < m → fp4 B rf rn rk b := fun _ h _ => .inl h
theorem inF {B rf rn rk m : Nat} : ∀ b, One rf b → b < m → fp4 B rf rn rk b := fun _ h _ => .inr (.inl h)
theorem inN {B rf rn rk m : Nat} : ∀ b, One rn b → b < m → fp4 B rf rn rk b := fun _ h _ => .inr (.inr (.inl h))
theorem inK {B rf rn rk m : Nat} : ∀ b, One rk b → b < m → fp4 B rf rn rk b := fun _ h _ => .inr (.inr (.inr h))

theorem FilesOk.empty {n : Nat} {f : Int → Option (ByteArray × Int)} (h : FilesOk n f) (m : Int) : FilesOk (n + 1) (upd f m (⟨#[]⟩, 0)) :=
  h.put m (⟨#[]⟩, 0) (Nat.zero_le _) (Int.le_refl 0) (Int.le_refl 0)

def DK.create (d : DK) (x : ByteArray) : Int × DK :=
  if mayE d.down [x] ≠ 0 then (mayE d.down [x], d) else if d.stepE ≠ 0 then (d.stepE, d.step) else
    (0, { d.step with last := d.step.last + 1, files := upd d.step.files (d.step.last + 1) (⟨#[]⟩, 0), names := upd d.step.names x (d.step.last + 1) })

set_option maxHeartbeats 1000000 in
set_option maxRecDepth 100000 in
theorem vfs_create {w : World} {n B rf rn rk : Nat} {d : DK} (hD : DiskAt w n B rf rn rk d) (hn : n + 3 ≤ 1073741824) (x : ByteArray) :
    Calls Try.prog 9 #[.pointer (some ⟨B, 0, none⟩), .string x] w fun e w' => e = .returned (.int .i64 (d.create x).1) ∧ DiskAt w' (n + 3) B rf rn rk (d.create x).2 ∧ Keeps (fp4 B rf rn rk) w w' := by
  by_cases h1 : mayE d.down [x] = 0
  · by_cases h2 : d.stepE = 0
    · have b1 : (mayE d.down [x] != 0) = false := by rw [h1]; rfl
      have b2 : (d.stepE != 0) = false := by rw [h2]; rfl
      have hfin : d.create x = (0, { d.step with last := d.step.last + 1, files := upd d.step.files (d.step.last + 1) (⟨#[]⟩, 0), names := upd d.step.names x (d.step.last + 1) }) := by
        simp only [DK.create, h1, h2, ne_eq, not_true_eq_false, if_false]
      have hx40 := mayE_name (List.mem_singleton.2 rfl) (Or.inl h1)
      have Hfin := Lib.hid hfin
      have H1 := Lib.hid h1
      have H2 := Lib.hid h2
      clear hfin h1 h2
      go_enter Try.func9, Try.ntmps9
      go_wp2_with (first
        | (go_at_call 37; refine (vfs_may1 (hD.keeps (S := Nil) ((Keeps.refl _ _).alloc _) (fun _ _ h => h)) _ _ x (by simp)).mono ?_; rintro e w1 ⟨rfl, hK1⟩)
        | (go_at_call 38; refine (vfs_step ((hD.keeps (S := Nil) ((Keeps.refl _ _).alloc _) (fun _ _ h => h)).keeps hK1 (fun _ _ h => h)) (by omega)).mono ?_; rintro e w2 ⟨rfl, hD2, hK2⟩; have c3 := hD2.c3; have f3 := hD2.blk.frozen 3))
      have l1 := hD.ok.l1
      have l0 := hD.ok.l0
      have hD3 := hD2.turn (d' := { d.step with last := d.step.last + 1 }) ((Keeps.refl (One B) w2).setCell (p := ⟨B, 3, none⟩) (.inl rfl) (.int .i64 (d.step.last + 1))) (hD2.blk.set_ 3 _) rfl rfl rfl
        (hD2.ok.last (by rw [DK.step_last]; omega) (by rw [DK.step_last]; omega))
      have hK3 := (Keeps.refl (One B) w2).setCell (p := ⟨B, 3, none⟩) (.inl rfl) (.int .i64 (d.step.last + 1))
      rw [show wrap64 (d.step.last + 1) = d.step.last + 1 from IntWalk.wrap64_in _ (by rw [DK.step_last]; omega)]
      generalize w2.setCell ⟨B, 3, none⟩ (.int .i64 (d.step.last + 1)) = w3 at *
      have g0 := hD3.c0
      have g3 := hD3.c3
      go_still_tail 9, (by kernel_rfl)
      refine wpList_mapF_update rfl (.tmp 29) (.tmp 33) (.tmp 34) rfl hD3.files.drew kI Try.underlying39 rfl (d.step.last + 1) (⟨#[]⟩, 0) rfl rfl ?_
      intro w4 hm4 hk4
      have hK4 : Keeps (One rf) w3 w4 := ((Keeps.refl _ w3).drew).same hk4
      have hD4 := hD3.setFiles hm4 hK4 (by omega) (hD3.fs.empty _)
      clear hm4 hk4 g0 g3 c3 f3
      have j1 := hD4.c1
      have j3 := hD4.c3
      go_wp2
      go_still_tail 9, (by kernel_rfl)
      refine wpList_mapF_update rfl (.tmp 38) (.tmp 39) (.tmp 43) rfl hD4.names.drew kS Try.underlying40 rfl x (d.step.last + 1) rfl rfl ?_
      intro w5 hm5 hk5
      have hK5 : Keeps (One rn) w4 w5 := ((Keeps.refl _ w4).drew).same hk5
      have hD5 := hD4.setNames hm5 hK5 (by omega) (hD4.no.put hx40 _) (hD4.un.put _ _)
      clear hm5 hk5 j1 j3
      go_wp2
      go_ret
      refine ⟨ret_int (by rw [Hfin.out]), by rw [Hfin.out]; exact hD5, ?_⟩
      exact ((((((Keeps.refl (fp4 B rf rn rk) w).alloc _).trans hK1 (fun _ h _ => h.elim)).trans hK2 inB).trans hK3 inB).trans hK4 inF).trans hK5 inN
    · have b1 : (mayE d.down [x] != 0) = false := by rw [h1]; rfl
      have b2 : (d.stepE != 0) = true := by rw [bne_iff_ne]; exact h2
      have hfin : d.create x = (d.stepE, d.step) := by
        simp only [DK.create, h1, h2, ne_eq, not_true_eq_false, not_false_eq_true, if_false, if_true]
      have Hfin := Lib.hid hfin
      clear hfin h1 h2
      go_enter Try.func9, Try.ntmps9
      go_wp2_with (first
        | (go_at_call 37; refine (vfs_may1 (hD.keeps (S := Nil) ((Keeps.refl _ _).alloc _) (fun _ _ h => h)) _ _ x (by simp)).mono ?_; rintro e w1 ⟨rfl, hK1⟩)
        | (go_at_call 38; refine (vfs_step ((hD.keeps (S := Nil) ((Keeps.refl _ _).alloc _) (fun _ _ h => h)).keeps hK1 (fun _ _ h => h)) (by omega)).mono ?_; rintro e w2 ⟨rfl, hD2, hK2⟩))
      go_ret
      rw [Hfin.out]
      exact ⟨rfl, hD2.mono (by omega) hn, (((Keeps.refl (fp4 B rf rn rk) w).alloc _).trans hK1 (fun _ h _ => h.elim)).trans hK2 inB⟩
  · have b1 : (mayE d.down [x] != 0) = true := by rw [bne_iff_ne]; exact h1
    have hfin : d.create x = (mayE d.down [x], d) := by
      simp only [DK.create, h1, ne_eq, not_false_eq_true, if_true]
    have Hfin := Lib.hid hfin
    clear hfin h1
    go_enter Try.func9, Try.ntmps9
    go_wp2_with (go_at_call 37; refine (vfs_may1 (hD.keeps (S := Nil) ((Keeps.refl _ _).alloc _) (fun _ _ h => h)) _ _ x (by simp)).mono ?_; rintro e w1 ⟨rfl, hK1⟩)
    go_ret
    rw [Hfin.out]
    exact ⟨rfl, ((hD.keeps (S := Nil) ((Keeps.refl _ _).alloc _) (fun _ _ h => h)).keeps hK1 (fun _ _ h => h)).mono (by omega) hn, ((Keeps.refl (fp4 B rf rn rk) w).alloc _).trans hK1 (fun _ h _ => h.elim)⟩

/-- A file with bytes behind it. -/
def addF (y : ByteArray) (p : ByteArray × Int) : ByteArray × Int := (p.1 ++ y, p.2)
/-- A file that is sure. -/
def sureF (p : ByteArray × Int) : ByteArray × Int := (p.1, p.1.size)

set_option maxHeartbeats 1000000 in
theorem vfs_append1 {w : World} (p : ByteArray × Int) (y : ByteArray) (a : Addr) (hc : w.cell? a = some (.string y)) (hs : p.1.size + y.size ≤ 9223372036854775807) :
    Calls Try.prog 40 #[fileV p, .pointer (some a)] w fun e w' => e = .returned (fileV (addF y p)) ∧ Keeps Nil w w' := by
  have hl := World.block_lt_of_cell? w _ hc
  unfold fileV
  go_enter Try.func40, Try.ntmps40
  go_wp2
  refine bodyPost_ret (v := .agg #[.string (addF y p).1, .int .i64 (addF y p).2]) ?_ rfl ⟨rfl, ?_⟩
  · simp [results, Try.results40, go_sem, addF]
  · exact ((Keeps.refl _ _).alloc _).alloc _
set_option maxHeartbeats 1000000 in
theorem vfs_sync1 {w : World} (p : ByteArray × Int) :
    Calls Try.prog 47 #[fileV p] w fun e w' => e = .returned (fileV (sureF p)) ∧ Keeps Nil w w' := by
  unfold fileV
  go_enter Try.func47, Try.ntmps47
  go_wp2
  refine bodyPost_ret (v := .agg #[.string (sureF p).1, .int .i64 (sureF p).2]) ?_ rfl ⟨rfl, ?_⟩
  · simp [results, Try.results47, go_sem, sureF]
  · exact ((Keeps.refl _ _).alloc _).alloc _

theorem zeroInt (w : World) : (zeroValue 3).run Try.prog w = .ok (.int .i64 0) w := by kernel_rfl
theorem zeroFile (w : World) : (zeroValue 66).run Try.prog w = .ok (fileV (⟨#[]⟩, 0)) w := by kernel_rfl

theorem FilesOk.get {n : Nat} {f : Int → Option (ByteArray × Int)} (h : FilesOk n f) (m : Int) : ((f m).getD (⟨#[]⟩, 0)).1.size ≤ n * 67108864 ∧ 0 ≤ ((f m).getD (⟨#[]⟩, 0)).2 ∧ ((f m).getD (⟨#[]⟩, 0)).2 ≤ ((f m).getD (⟨#[]⟩, 0)).1.size := by
  cases hf : f m with
  | none => exact ⟨by simp [ByteArray.size], by simp, by simp⟩
  | some p => exact h m p hf
theorem FilesOk.room {n : Nat} {f : Int → Option (ByteArray × Int)} (h : FilesOk n f) (m : Int) (y : ByteArray) (hy : y.size ≤ 67108864) (hn : n ≤ 1073741824) : ((f m).getD (⟨#[]⟩, 0)).1.size + y.size ≤ 9223372036854775807 := by
  have h1 := (h.get m).1
  have h2 : n * 67108864 ≤ 1073741824 * 67108864 := Nat.mul_le_mul_right _ hn
  have h3 : 1073741824 * 67108864 + 67108864 ≤ 9223372036854775807 := by decide
  exact Nat.le_trans (Nat.add_le_add (Nat.le_trans h1 h2) hy) h3

theorem FilesOk.add {n : Nat} {f : Int → Option (ByteArray × Int)} (h : FilesOk n f) (m : Int) (y : ByteArray) (hy : y.size ≤ 67108864) : (addF y ((f m).getD (⟨#[]⟩, 0))).1.size ≤ (n + 1) * 67108864 := by
  have h1 := (h.get m).1
  unfold addF
  rw [ByteArray.size_append, Nat.add_mul, Nat.one_mul]
  exact Nat.add_le_add h1 hy
theorem FilesOk.add' {n : Nat} {f : Int → Option (ByteArray × Int)} (h : FilesOk n f) (m : Int) (y : ByteArray) : (addF y ((f m).getD (⟨#[]⟩, 0))).2 ≤ (addF y ((f m).getD (⟨#[]⟩, 0))).1.size := by
  have h1 := (h.get m).2.2
  unfold addF
  rw [ByteArray.size_append]
  omega

/-- A file is changed. -/
def DK.change (d : DK) (x : ByteArray) (g : ByteArray × Int → ByteArray × Int) : Int × DK :=
  if mayE d.down [x] ≠ 0 then (mayE d.down [x], d) else
    match d.names x with
    | none => (11, d)
    | some m => if d.stepE ≠ 0 then (d.stepE, d.step) else (0, { d.step with files := upd d.step.files m (g ((d.step.files m).getD (⟨#[]⟩, 0))) })

set_option maxRecDepth 100000 in
set_option maxHeartbeats 2000000 in
theorem vfs_change_append {w : World} {n B rf rn rk : Nat} {d : DK} (hD : DiskAt w n B rf rn rk d) (hn : n + 3 ≤ 1073741824) (x : ByteArray) (y : ByteArray) (a : Addr) (hc : w.cell? a = some (.string y)) (haB : a.block ≠ B) (hy : y.size ≤ 67108864) :
    Calls Try.prog 39 #[.pointer (some ⟨B, 0, none⟩), .string x, .func (.func 40) #[] #[.pointer (some a)]] w fun e w' => e = .returned (.int .i64 (d.change x (addF y)).1) ∧ DiskAt w' (n + 3) B rf rn rk (d.change x (addF y)).2 ∧ Keeps (fp4 B rf rn rk) w w' := by
  by_cases h1 : mayE d.down [x] = 0
  · have b1 : (mayE d.down [x] != 0) = false := by rw [h1]; rfl
    cases hm : d.names x with
    | none =>
      have hfin : d.change x (addF y) = (11, d) := by
        simp only [DK.change, h1, hm, ne_eq, not_true_eq_false, if_false]
      have Hfin := Lib.hid hfin
      have Hm := Lib.hid hm
      clear hfin h1 hm
      go_enter Try.func39, Try.ntmps39
      go_wp2_with (go_at_call 37; refine (vfs_may1 (hD.keeps (S := Nil) ((Keeps.refl _ _).alloc _) (fun _ _ h => h)) _ _ x (by simp)).mono ?_; rintro e w1 ⟨rfl, hK1⟩; have hD1 := (hD.keeps (S := Nil) ((Keeps.refl _ _).alloc _) (fun _ _ h => h)).keeps hK1 (fun _ _ h => h); have c1 := hD1.c1; have hlk := hD1.names.lookup_none kS Try.underlying40 (zeroInt _) Hm.out)
      go_ret
      rw [Hfin.out]
      exact ⟨rfl, hD1.mono (by omega) hn, ((Keeps.refl (fp4 B rf rn rk) w).alloc _).trans hK1 (fun _ h _ => h.elim)⟩
    | some m =>
      have Hm := Lib.hid hm
      by_cases h2 : d.stepE = 0
      · have b2 : (d.stepE != 0) = false := by rw [h2]; rfl
        have hfin : d.change x (addF y) = (0, { d.step with files := upd d.step.files m ((addF y) ((d.step.files m).getD (⟨#[]⟩, 0))) }) := by
          simp only [DK.change, h1, hm, h2, ne_eq, not_true_eq_false, if_false]
        have Hfin := Lib.hid hfin
        clear hfin h1 h2 hm
        go_enter Try.func39, Try.ntmps39
        go_wp2_with (first
          | (go_at_call 37; refine (vfs_may1 (hD.keeps (S := Nil) ((Keeps.refl _ _).alloc _) (fun _ _ h => h)) _ _ x (by simp)).mono ?_; rintro e w1 ⟨rfl, hK1⟩; have hD1 := (hD.keeps (S := Nil) ((Keeps.refl _ _).alloc _) (fun _ _ h => h)).keeps hK1 (fun _ _ h => h); have c1 := hD1.c1; have hlk := hD1.names.lookup_some kS Try.underlying40 Hm.out)
          | (go_at_call 38; refine (vfs_step hD1 (by omega)).mono ?_; rintro e w2 ⟨rfl, hD2, hK2⟩; clear c1 hlk; have hl := World.block_lt_of_cell? w _ hc; have hc1 := ((((Keeps.refl Nil w).alloc _).same hK1).cell hl (fun h => h)).trans hc; have hc2 : w2.drew.cell? a = some (.string y) := (hK2.cell (World.block_lt_of_cell? w1 _ hc1) haB).trans hc1; clear hc1; have d0 := hD2.c0; have hK2a : Keeps Nil w2 w2.drew := (Keeps.refl _ _).drew; have hget := hD2.files.drew.get kI Try.underlying39 (zeroFile _) m))
        go_region_held3 (fun w' => w'.cell? ⟨B, 0, none⟩ = some (.map (some rf)))
          (first
            | go_keep
            | exact (hK3.cell (p := ⟨B, 0, none⟩) hD2.blk.lt (fun h => h)).trans d0
            | exact (hK4.cell (p := ⟨B, 0, none⟩) (Nat.lt_of_lt_of_le hD2.blk.lt hK3.size) hD2.bf).trans ((hK3.cell (p := ⟨B, 0, none⟩) hD2.blk.lt (fun h => h)).trans d0))
          ((go_at_call 40; refine (vfs_append1 _ y a hc2 (hD2.fs.room m y hy hD2.ok.n1)).mono ?_; rintro e w3 ⟨rfl, hK3⟩; obtain ⟨w4, hrun4, hm4, hK4⟩ := (hD2.keeps (hK2a.same hK3) (fun _ _ h => h)).files.update kI Try.underlying39 m (addF y ((d.step.files m).getD (⟨#[]⟩, 0)))))
        have hD4 := (hD2.keeps (hK2a.same hK3) (fun _ _ h => h)).setFiles hm4 hK4 (by omega) (hD2.fs.put m _ (hD2.fs.add m y hy) (hD2.fs.get m).2.1 (hD2.fs.add' m y))
        clear hm4 hrun4
        go_wp2
        go_ret
        rw [Hfin.out]
        exact ⟨rfl, hD4.mono (by omega) hn, ((((((Keeps.refl (fp4 B rf rn rk) w).alloc _).trans hK1 (fun _ h _ => h.elim)).trans hK2 inB).trans hK2a (fun _ h _ => h.elim)).trans hK3 (fun _ h _ => h.elim)).trans hK4 inF⟩
      · have b2 : (d.stepE != 0) = true := by rw [bne_iff_ne]; exact h2
        have hfin : d.change x (addF y) = (d.stepE, d.step) := by
          simp only [DK.change, h1, hm, h2, ne_eq, not_true_eq_false, not_false_eq_true, if_false, if_true]
        have Hfin := Lib.hid hfin
        clear hfin h1 h2 hm
        go_enter Try.func39, Try.ntmps39
        go_wp2_with (first
          | (go_at_call 37; refine (vfs_may1 (hD.keeps (S := Nil) ((Keeps.refl _ _).alloc _) (fun _ _ h => h)) _ _ x (by simp)).mono ?_; rintro e w1 ⟨rfl, hK1⟩; have hD1 := (hD.keeps (S := Nil) ((Keeps.refl _ _).alloc _) (fun _ _ h => h)).keeps hK1 (fun _ _ h => h); have c1 := hD1.c1; have hlk := hD1.names.lookup_some kS Try.underlying40 Hm.out)
          | (go_at_call 38; refine (vfs_step hD1 (by omega)).mono ?_; rintro e w2 ⟨rfl, hD2, hK2⟩; clear c1 hlk))
        go_ret
        rw [Hfin.out]
        exact ⟨rfl, hD2.mono (by omega) hn, (((Keeps.refl (fp4 B rf rn rk) w).alloc _).trans hK1 (fun _ h _ => h.elim)).trans hK2 inB⟩
  · have b1 : (mayE d.down [x] != 0) = true := by rw [bne_iff_ne]; exact h1
    have hfin : d.change x (addF y) = (mayE d.down [x], d) := by
      simp only [DK.change, h1, ne_eq, not_false_eq_true, if_true]
    have Hfin := Lib.hid hfin
    clear hfin h1
    go_enter Try.func39, Try.ntmps39
    go_wp2_with (go_at_call 37; refine (vfs_may1 (hD.keeps (S := Nil) ((Keeps.refl _ _).alloc _) (fun _ _ h => h)) _ _ x (by simp)).mono ?_; rintro e w1 ⟨rfl, hK1⟩)
    go_ret
    rw [Hfin.out]
    exact ⟨rfl, ((hD.keeps (S := Nil) ((Keeps.refl _ _).alloc _) (fun _ _ h => h)).keeps hK1 (fun _ _ h => h)).mono (by omega) hn, ((Keeps.refl (fp4 B rf rn rk) w).alloc _).trans hK1 (fun _ h _ => h.elim)⟩

set_option maxRecDepth 100000 in
set_option maxHeartbeats 2000000 in
theorem vfs_change_sync {w : World} {n B rf rn rk : Nat} {d : DK} (hD : DiskAt w n B rf rn rk d) (hn : n + 3 ≤ 1073741824) (x : ByteArray) :
    Calls Try.prog 39 #[.pointer (some ⟨B, 0, none⟩), .string x, .func (.func 47) #[] #[]] w fun e w' => e = .returned (.int .i64 (d.change x sureF).1) ∧ DiskAt w' (n + 3) B rf rn rk (d.change x sureF).2 ∧ Keeps (fp4 B rf rn rk) w w' := by
  by_cases h1 : mayE d.down [x] = 0
  · have b1 : (mayE d.down [x] != 0) = false := by rw [h1]; rfl
    cases hm : d.names x with
    | none =>
      have hfin : d.change x sureF = (11, d) := by
        simp only [DK.change, h1, hm, ne_eq, not_true_eq_false, if_false]
      have Hfin := Lib.hid hfin
      have Hm := Lib.hid hm
      clear hfin h1 hm
      go_enter Try.func39, Try.ntmps39
      go_wp2_with (go_at_call 37; refine (vfs_may1 (hD.keeps (S := Nil) ((Keeps.refl _ _).alloc _) (fun _ _ h => h)) _ _ x (by simp)).mono ?_; rintro e w1 ⟨rfl, hK1⟩; have hD1 := (hD.keeps (S := Nil) ((Keeps.refl _ _).alloc _) (fun _ _ h => h)).keeps hK1 (fun _ _ h => h); have c1 := hD1.c1; have hlk := hD1.names.lookup_none kS Try.underlying40 (zeroInt _) Hm.out)
      go_ret
      rw [Hfin.out]
      exact ⟨rfl, hD1.mono (by omega) hn, ((Keeps.refl (fp4 B rf rn rk) w).alloc _).trans hK1 (fun _ h _ => h.elim)⟩
    | some m =>
      have Hm := Lib.hid hm
      by_cases h2 : d.stepE = 0
      · have b2 : (d.stepE != 0) = false := by rw [h2]; rfl
        have hfin : d.change x sureF = (0, { d.step with files := upd d.step.files m (sureF ((d.step.files m).getD (⟨#[]⟩, 0))) }) := by
          simp only [DK.change, h1, hm, h2, ne_eq, not_true_eq_false, if_false]
        have Hfin := Lib.hid hfin
        clear hfin h1 h2 hm
        go_enter Try.func39, Try.ntmps39
        go_wp2_with (first
          | (go_at_call 37; refine (vfs_may1 (hD.keeps (S := Nil) ((Keeps.refl _ _).alloc _) (fun _ _ h => h)) _ _ x (by simp)).mono ?_; rintro e w1 ⟨rfl, hK1⟩; have hD1 := (hD.keeps (S := Nil) ((Keeps.refl _ _).alloc _) (fun _ _ h => h)).keeps hK1 (fun _ _ h => h); have c1 := hD1.c1; have hlk := hD1.names.lookup_some kS Try.underlying40 Hm.out)
          | (go_at_call 38; refine (vfs_step hD1 (by omega)).mono ?_; rintro e w2 ⟨rfl, hD2, hK2⟩; clear c1 hlk; have d0 := hD2.c0; have hK2a : Keeps Nil w2 w2.drew := (Keeps.refl _ _).drew; have hget := hD2.files.drew.get kI Try.underlying39 (zeroFile _) m))
        go_region_held3 (fun w' => w'.cell? ⟨B, 0, none⟩ = some (.map (some rf)))
          (first
            | go_keep
            | exact (hK3.cell (p := ⟨B, 0, none⟩) hD2.blk.lt (fun h => h)).trans d0
            | exact (hK4.cell (p := ⟨B, 0, none⟩) (Nat.lt_of_lt_of_le hD2.blk.lt hK3.size) hD2.bf).trans ((hK3.cell (p := ⟨B, 0, none⟩) hD2.blk.lt (fun h => h)).trans d0))
          ((go_at_call 47; refine (vfs_sync1 _).mono ?_; rintro e w3 ⟨rfl, hK3⟩; obtain ⟨w4, hrun4, hm4, hK4⟩ := (hD2.keeps (hK2a.same hK3) (fun _ _ h => h)).files.update kI Try.underlying39 m (sureF ((d.step.files m).getD (⟨#[]⟩, 0)))))
        have hD4 := (hD2.keeps (hK2a.same hK3) (fun _ _ h => h)).setFiles hm4 hK4 (by omega) (hD2.fs.put m _ (Nat.le_trans (hD2.fs.get m).1 (Nat.mul_le_mul_right _ (Nat.le_succ _))) (Int.natCast_nonneg _) (Int.le_refl _))
        clear hm4 hrun4
        go_wp2
        go_ret
        rw [Hfin.out]
        exact ⟨rfl, hD4.mono (by omega) hn, ((((((Keeps.refl (fp4 B rf rn rk) w).alloc _).trans hK1 (fun _ h _ => h.elim)).trans hK2 inB).trans hK2a (fun _ h _ => h.elim)).trans hK3 (fun _ h _ => h.elim)).trans hK4 inF⟩
      · have b2 : (d.stepE != 0) = true := by rw [bne_iff_ne]; exact h2
        have hfin : d.change x sureF = (d.stepE, d.step) := by
          simp only [DK.change, h1, hm, h2, ne_eq, not_true_eq_false, not_false_eq_true, if_false, if_true]
        have Hfin := Lib.hid hfin
        clear hfin h1 h2 hm
        go_enter Try.func39, Try.ntmps39
        go_wp2_with (first
          | (go_at_call 37; refine (vfs_may1 (hD.keeps (S := Nil) ((Keeps.refl _ _).alloc _) (fun _ _ h => h)) _ _ x (by simp)).mono ?_; rintro e w1 ⟨rfl, hK1⟩; have hD1 := (hD.keeps (S := Nil) ((Keeps.refl _ _).alloc _) (fun _ _ h => h)).keeps hK1 (fun _ _ h => h); have c1 := hD1.c1; have hlk := hD1.names.lookup_some kS Try.underlying40 Hm.out)
          | (go_at_call 38; refine (vfs_step hD1 (by omega)).mono ?_; rintro e w2 ⟨rfl, hD2, hK2⟩; clear c1 hlk))
        go_ret
        rw [Hfin.out]
        exact ⟨rfl, hD2.mono (by omega) hn, (((Keeps.refl (fp4 B rf rn rk) w).alloc _).trans hK1 (fun _ h _ => h.elim)).trans hK2 inB⟩
  · have b1 : (mayE d.down [x] != 0) = true := by rw [bne_iff_ne]; exact h1
    have hfin : d.change x sureF = (mayE d.down [x], d) := by
      simp only [DK.change, h1, ne_eq, not_false_eq_true, if_true]
    have Hfin := Lib.hid hfin
    clear hfin h1
    go_enter Try.func39, Try.ntmps39
    go_wp2_with (go_at_call 37; refine (vfs_may1 (hD.keeps (S := Nil) ((Keeps.refl _ _).alloc _) (fun _ _ h => h)) _ _ x (by simp)).mono ?_; rintro e w1 ⟨rfl, hK1⟩)
    go_ret
    rw [Hfin.out]
    exact ⟨rfl, ((hD.keeps (S := Nil) ((Keeps.refl _ _).alloc _) (fun _ _ h => h)).keeps hK1 (fun _ _ h => h)).mono (by omega) hn, ((Keeps.refl (fp4 B rf rn rk) w).alloc _).trans hK1 (fun _ h _ => h.elim)⟩

set_option maxHeartbeats 1000000 in
theorem vfs_append {w : World} {n B rf rn rk : Nat} {d : DK} (hD : DiskAt w n B rf rn rk d) (hn : n + 3 ≤ 1073741824) (x y : ByteArray) (hy : y.size ≤ 67108864) :
    Calls Try.prog 10 #[.pointer (some ⟨B, 0, none⟩), .string x, .string y] w fun e w' => e = .returned (.int .i64 (d.change x (addF y)).1) ∧ DiskAt w' (n + 3) B rf rn rk (d.change x (addF y)).2 ∧ Keeps (fp4 B rf rn rk) w w' := by
  have hne : w.heap.size ≠ B := by have := hD.blk.lt; omega
  go_enter Try.func10, Try.ntmps10
  go_wp2_with (go_at_call 39; refine (vfs_change_append (hD.keeps (S := Nil) ((Keeps.refl _ _).alloc _) (fun _ _ h => h)) hn x y _ (by simp) hne hy).mono ?_; rintro e w1 ⟨rfl, hD1, hK1⟩)
  go_ret
  exact ⟨rfl, hD1, ((Keeps.refl (fp4 B rf rn rk) w).alloc _).same hK1⟩
set_option maxHeartbeats 1000000 in
theorem vfs_sync {w : World} {n B rf rn rk : Nat} {d : DK} (hD : DiskAt w n B rf rn rk d) (hn : n + 3 ≤ 1073741824) (x : ByteArray) :
    Calls Try.prog 18 #[.pointer (some ⟨B, 0, none⟩), .string x] w fun e w' => e = .returned (.int .i64 (d.change x sureF).1) ∧ DiskAt w' (n + 3) B rf rn rk (d.change x sureF).2 ∧ Keeps (fp4 B rf rn rk) w w' := by
  go_enter Try.func18, Try.ntmps18
  go_wp2_with (go_at_call 39; refine (vfs_change_sync hD hn x).mono ?_; rintro e w1 ⟨rfl, hD1, hK1⟩)
  go_ret
  exact ⟨rfl, hD1, hK1⟩
end Go.Proofs.Ytmjlbpgngahgmaa
