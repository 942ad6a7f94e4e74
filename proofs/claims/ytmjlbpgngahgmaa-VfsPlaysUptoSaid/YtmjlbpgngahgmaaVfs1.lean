/- The disk of package vfs as a Lean value, and its small methods: New, Name, step, Steps, Down, Arm, Calm. No conditions but the counters' bounds. -/
import Derived.Test.YtmjlbpgngahgmaaCore
import Derived.Test.YtmjlbpgngahgmaaRows
namespace Go.Proofs.Ytmjlbpgngahgmaa
open Go.RowKit Go.MapKept

/-- The disk: files by number, names, names that are sure; the counters. -/
structure DK where
  files : Int → Option (ByteArray × Int)
  names : ByteArray → Option Int
  kept : ByteArray → Option Int
  last : Int
  steps : Int
  armed : Int
  fault : Int
  down : Bool

/-- The counters are small. -/
structure DK.Ok (n : Nat) (d : DK) : Prop where
  l0 : 0 ≤ d.last
  l1 : d.last ≤ n
  s0 : 0 ≤ d.steps
  s1 : d.steps ≤ n
  a0 : -1 ≤ d.armed
  a1 : d.armed ≤ 9223372036854775807
  n1 : n ≤ 1073741824

def fileV (p : ByteArray × Int) : Value := .agg #[.string p.1, .int .i64 p.2]

def DK.cells (d : DK) (rf rn rk : Nat) : Array Value :=
  #[.map (some rf), .map (some rn), .map (some rk), .int .i64 d.last, .int .i64 d.steps, .int .i64 d.armed, .int .i64 d.fault, .bool d.down]

/-- The files' sizes are small, and no more is sure than there is. -/
def FilesOk (n : Nat) (f : Int → Option (ByteArray × Int)) : Prop := ∀ m p, f m = some p → p.1.size ≤ n * 67108864 ∧ 0 ≤ p.2 ∧ p.2 ≤ p.1.size

/-- The names are short. -/
def NamesOk (f : ByteArray → Option Int) : Prop := ∀ k, f k ≠ none → k.size ≤ 40

/-- All names, sure or not, are among few. -/
def Few (n : Nat) (f g : ByteArray → Option Int) : Prop := ∃ U : List ByteArray, U.length ≤ n ∧ ∀ k, f k ≠ none ∨ g k ≠ none → k ∈ U

/-- A disk lies in the blocks B, rf, rn, rk. -/
structure DiskAt (w : World) (n B rf rn rk : Nat) (d : DK) : Prop where
  blk : Blk w B 43 (d.cells rf rn rk)
  files : MapF w rf (Value.int .i64) fileV n d.files
  names : MapF w rn Value.string (Value.int .i64) n d.names
  kept : MapF w rk Value.string (Value.int .i64) n d.kept
  fn : rf ≠ rn
  fk : rf ≠ rk
  nk : rn ≠ rk
  ok : d.Ok n
  fs : FilesOk n d.files
  no : NamesOk d.names
  ko : NamesOk d.kept
  un : Few n d.names d.kept

def fp4 (B rf rn rk : Nat) : Nat → Prop := fun k => k = B ∨ k = rf ∨ k = rn ∨ k = rk

theorem Blk.ne_map {κ β : Type} {w : World} {g b n : Nat} {t : TypeId} {cs : Array Value} {K : κ → Value} {R : β → Value} {f : κ → Option β} (h : Blk w g t cs) (m : MapF w b K R n f) : g ≠ b := by
  rintro rfl
  obtain ⟨es, c, hb, _⟩ := m
  unfold Blk at h
  rw [h] at hb
  cases hb

section
variable {w w' : World} {n B rf rn rk : Nat} {d : DK} {S : Nat → Prop}
theorem DiskAt.keeps (h : DiskAt w n B rf rn rk d) (k : Keeps S w w') (hS : ∀ b, fp4 B rf rn rk b → ¬ S b) : DiskAt w' n B rf rn rk d :=
  ⟨h.blk.keeps k (hS _ (.inl rfl)), h.files.keeps k (hS _ (.inr (.inl rfl))), h.names.keeps k (hS _ (.inr (.inr (.inl rfl)))), h.kept.keeps k (hS _ (.inr (.inr (.inr rfl)))), h.fn, h.fk, h.nk, h.ok, h.fs, h.no, h.ko, h.un⟩
theorem DiskAt.lt (h : DiskAt w n B rf rn rk d) : ∀ b, fp4 B rf rn rk b → b < w.heap.size := by
  rintro b (rfl | rfl | rfl | rfl)
  · exact h.blk.lt
  · exact h.files.lt
  · exact h.names.lt
  · exact h.kept.lt
theorem DiskAt.bf (h : DiskAt w n B rf rn rk d) : B ≠ rf := h.blk.ne_map h.files
theorem DiskAt.bn (h : DiskAt w n B rf rn rk d) : B ≠ rn := h.blk.ne_map h.names
theorem DiskAt.bk (h : DiskAt w n B rf rn rk d) : B ≠ rk := h.blk.ne_map h.kept
theorem DiskAt.c0 (h : DiskAt w n B rf rn rk d) : w.cell? ⟨B, 0, none⟩ = some (.map (some rf)) := h.blk.cell 0
theorem DiskAt.c1 (h : DiskAt w n B rf rn rk d) : w.cell? ⟨B, 1, none⟩ = some (.map (some rn)) := h.blk.cell 1
theorem DiskAt.c2 (h : DiskAt w n B rf rn rk d) : w.cell? ⟨B, 2, none⟩ = some (.map (some rk)) := h.blk.cell 2
theorem DiskAt.c3 (h : DiskAt w n B rf rn rk d) : w.cell? ⟨B, 3, none⟩ = some (.int .i64 d.last) := h.blk.cell 3
theorem DiskAt.c4 (h : DiskAt w n B rf rn rk d) : w.cell? ⟨B, 4, none⟩ = some (.int .i64 d.steps) := h.blk.cell 4
theorem DiskAt.c5 (h : DiskAt w n B rf rn rk d) : w.cell? ⟨B, 5, none⟩ = some (.int .i64 d.armed) := h.blk.cell 5
theorem DiskAt.c6 (h : DiskAt w n B rf rn rk d) : w.cell? ⟨B, 6, none⟩ = some (.int .i64 d.fault) := h.blk.cell 6
theorem DiskAt.c7 (h : DiskAt w n B rf rn rk d) : w.cell? ⟨B, 7, none⟩ = some (.bool d.down) := h.blk.cell 7
/-- Only the block B turns, and only its counters. -/
theorem DiskAt.turn (h : DiskAt w n B rf rn rk d) {d' : DK} (k : Keeps (One B) w w') (hb : Blk w' B 43 (d'.cells rf rn rk)) (hf : d'.files = d.files) (hn : d'.names = d.names) (hk : d'.kept = d.kept)
    (hok : d'.Ok n) : DiskAt w' n B rf rn rk d' :=
  ⟨hb, by rw [hf]; exact h.files.keeps k (fun e => h.bf e.symm), by rw [hn]; exact h.names.keeps k (fun e => h.bn e.symm), by rw [hk]; exact h.kept.keeps k (fun e => h.bk e.symm), h.fn, h.fk, h.nk, hok, by rw [hf]; exact h.fs, by rw [hn]; exact h.no, by rw [hk]; exact h.ko, by rw [hn, hk]; exact h.un⟩
theorem FilesOk.mono {m : Nat} {f : Int → Option (ByteArray × Int)} (h : FilesOk n f) (hm : n ≤ m) : FilesOk m f := fun k p hp => by
  obtain ⟨h1, h2, h3⟩ := h k p hp
  exact ⟨Nat.le_trans h1 (Nat.mul_le_mul_right _ hm), h2, h3⟩
theorem Few.mono {m : Nat} {f g : ByteArray → Option Int} (h : Few n f g) (hm : n ≤ m) : Few m f g := by
  obtain ⟨U, h1, h2⟩ := h
  exact ⟨U, Nat.le_trans h1 hm, h2⟩
theorem Few.put {f g : ByteArray → Option Int} (h : Few n f g) (x : ByteArray) (v : Int) : Few (n + 1) (upd f x v) g := by
  obtain ⟨U, h1, h2⟩ := h
  refine ⟨x :: U, by simp; omega, fun k hk => ?_⟩
  by_cases e : k = x
  · rw [e]; exact List.mem_cons_self
  · exact List.mem_cons_of_mem _ (h2 k (by simpa [upd, e] using hk))
theorem Few.drop {f g : ByteArray → Option Int} (h : Few n f g) (x : ByteArray) : Few n (del f x) g := by
  obtain ⟨U, h1, h2⟩ := h
  refine ⟨U, h1, fun k hk => h2 k ?_⟩
  by_cases e : k = x
  · simp [del, e] at hk
    rw [e]; exact .inr hk
  · simpa [del, e] using hk
theorem Few.same {f g : ByteArray → Option Int} (h : Few n f g) : Few n f f := by
  obtain ⟨U, h1, h2⟩ := h
  exact ⟨U, h1, fun k hk => h2 k (.inl (by rcases hk with h | h <;> exact h))⟩
theorem DK.Ok.mono {m : Nat} (h : d.Ok n) (hm : n ≤ m) (hb : m ≤ 1073741824) : d.Ok m :=
  ⟨h.l0, by have := h.l1; omega, h.s0, by have := h.s1; omega, h.a0, h.a1, hb⟩
theorem DK.Ok.of {d' : DK} (h : d.Ok n) (hl : d'.last = d.last) (hs : d'.steps = d.steps) (ha : d'.armed = d.armed) : d'.Ok n :=
  ⟨by rw [hl]; exact h.l0, by rw [hl]; exact h.l1, by rw [hs]; exact h.s0, by rw [hs]; exact h.s1, by rw [ha]; exact h.a0, by rw [ha]; exact h.a1, h.n1⟩
theorem DK.Ok.last {l : Int} (h : d.Ok n) (h0 : 0 ≤ l) (h1 : l ≤ n) : DK.Ok n { d with last := l } := ⟨h0, h1, h.s0, h.s1, h.a0, h.a1, h.n1⟩
theorem DiskAt.mono {m : Nat} (h : DiskAt w n B rf rn rk d) (hm : n ≤ m) (hb : m ≤ 1073741824) : DiskAt w m B rf rn rk d :=
  ⟨h.blk, h.files.mono hm, h.names.mono hm, h.kept.mono hm, h.fn, h.fk, h.nk, h.ok.mono hm hb, h.fs.mono hm, h.no, h.ko, h.un.mono hm⟩
end

theorem NamesOk.put {f : ByteArray → Option Int} (h : NamesOk f) {x : ByteArray} (hx : x.size ≤ 40) (m : Int) : NamesOk (upd f x m) := fun k hk => by
  by_cases e : k = x
  · rw [e]; exact hx
  · exact h k (by simpa [upd, e] using hk)
theorem NamesOk.drop {f : ByteArray → Option Int} (h : NamesOk f) (x : ByteArray) : NamesOk (del f x) := fun k hk => by
  by_cases e : k = x
  · simp [del, e] at hk
  · exact h k (by simpa [del, e] using hk)

theorem FilesOk.put {n : Nat} {f : Int → Option (ByteArray × Int)} (h : FilesOk n f) (m : Int) (p : ByteArray × Int) (h1 : p.1.size ≤ (n + 1) * 67108864) (h2 : 0 ≤ p.2) (h3 : p.2 ≤ p.1.size) : FilesOk (n + 1) (upd f m p) := by
  intro k q hq
  by_cases e : k = m
  · simp [upd, e] at hq
    subst hq
    exact ⟨h1, h2, h3⟩
  · simp [upd, e] at hq
    exact h.mono (Nat.le_succ n) k q hq

section
variable {w w' : World} {n B rf rn rk : Nat} {d : DK}
theorem DiskAt.setFiles {f : Int → Option (ByteArray × Int)} (h : DiskAt w n B rf rn rk d) (m : MapF w' rf (Value.int .i64) fileV (n + 1) f) (k : Keeps (One rf) w w') (hn : n + 1 ≤ 1073741824) (hfs : FilesOk (n + 1) f) :
    DiskAt w' (n + 1) B rf rn rk { d with files := f } :=
  ⟨h.blk.keeps k h.bf, m, (h.names.keeps k (fun e => h.fn e.symm)).mono (Nat.le_succ n), (h.kept.keeps k (fun e => h.fk e.symm)).mono (Nat.le_succ n), h.fn, h.fk, h.nk, (h.ok.mono (Nat.le_succ n) hn).of rfl rfl rfl, hfs, h.no, h.ko, h.un.mono (Nat.le_succ n)⟩
theorem DiskAt.setNames {f : ByteArray → Option Int} (h : DiskAt w n B rf rn rk d) (m : MapF w' rn Value.string (Value.int .i64) (n + 1) f) (k : Keeps (One rn) w w') (hn : n + 1 ≤ 1073741824) (hno : NamesOk f) (hun : Few (n + 1) f d.kept) :
    DiskAt w' (n + 1) B rf rn rk { d with names := f } :=
  ⟨h.blk.keeps k h.bn, (h.files.keeps k h.fn).mono (Nat.le_succ n), m, (h.kept.keeps k (fun e => h.nk e.symm)).mono (Nat.le_succ n), h.fn, h.fk, h.nk, (h.ok.mono (Nat.le_succ n) hn).of rfl rfl rfl, h.fs.mono (Nat.le_succ n), hno, h.ko, hun⟩
end

/-- New: 4.1. -/
def DK.new : DK := ⟨fun _ => none, fun _ => none, fun _ => none, 0, 0, -1, 0, false⟩

/-- A change is done, or the fault has come. -/
def DK.step (d : DK) : DK := if d.armed = 0 then { d with armed := -1, down := d.fault == 15 } else { d with armed := max (-1) (d.armed - 1), steps := d.steps + 1 }
def DK.stepE (d : DK) : Int := if d.armed = 0 then d.fault else 0

theorem DK.step_last (d : DK) : d.step.last = d.last := by unfold DK.step; split <;> rfl
theorem DK.step_files (d : DK) : d.step.files = d.files := by unfold DK.step; split <;> rfl
theorem DK.step_names (d : DK) : d.step.names = d.names := by unfold DK.step; split <;> rfl
theorem DK.step_kept (d : DK) : d.step.kept = d.kept := by unfold DK.step; split <;> rfl
theorem DK.step_ok {n : Nat} {d : DK} (h : d.Ok n) (hn : n + 1 ≤ 1073741824) : d.step.Ok (n + 1) := by
  obtain ⟨h1, h2, h3, h4, h5, h6, h7⟩ := h
  unfold DK.step
  split
  · exact ⟨h1, by dsimp only; omega, h3, by dsimp only; omega, by dsimp only; omega, by dsimp only; omega, by omega⟩
  · exact ⟨h1, by dsimp only; omega, by dsimp only; omega, by dsimp only; omega, by dsimp only; omega, by dsimp only; omega, by omega⟩

theorem Keeps.to {S : Nat → Prop} {w w' : World} (h : Keeps S w w') : Keeps S w w' := h

set_option maxHeartbeats 400000 in
theorem vfs_new (w : World) : Calls Try.prog 4 #[] w fun e w' => ∃ B rf rn rk, e = .returned (.pointer (some ⟨B, 0, none⟩)) ∧ DiskAt w' 0 B rf rn rk DK.new ∧ Keeps Nil w w' ∧ (∀ b, fp4 B rf rn rk b → w.heap.size ≤ b) := by
  have hmm := @run_makeMap Try.prog
  go_enter Try.func4, Try.ntmps4
  go_wp2
  go_ret
  have m1 := MapF.new w (Value.int .i64) fileV
  have m2 := MapF.new (w.alloc (.map #[] 0)) Value.string (Value.int .i64)
  have m3 := MapF.new ((w.alloc (.map #[] 0)).alloc (.map #[] 0)) Value.string (Value.int .i64)
  simp only [World.size_alloc] at m2 m3
  have k (W : World) (o : Obj) : Keeps Nil W (W.alloc o) := (Keeps.refl _ _).alloc _
  have no (b : Nat) : ¬ Nil b := fun h => h
  refine ⟨w.heap.size + 1 + 1 + 1, w.heap.size, w.heap.size + 1, w.heap.size + 1 + 1, rfl, ⟨?_, ?_, ?_, ?_, by omega, by omega, by omega, ?_, (fun m p h => by cases h), (fun k h => absurd rfl h), (fun k h => absurd rfl h), ⟨[], Nat.le_refl _, fun k h => by rcases h with h | h <;> exact absurd rfl h⟩⟩, ?_, ?_⟩
  · have hb := Blk.new (((w.alloc (.map #[] 0)).alloc (.map #[] 0)).alloc (.map #[] 0)) 43 (DK.new.cells w.heap.size (w.heap.size + 1) (w.heap.size + 1 + 1))
    simp only [World.size_alloc] at hb
    exact hb
  · exact ((m1.keeps (k _ _) (no _)).keeps (k _ _) (no _)).keeps (k _ _) (no _)
  · exact (m2.keeps (k _ _) (no _)).keeps (k _ _) (no _)
  · exact m3.keeps (k _ _) (no _)
  · exact ⟨by simp [DK.new], by simp [DK.new], by simp [DK.new], by simp [DK.new], by simp [DK.new], by simp [DK.new], by omega⟩
  · exact ((((Keeps.refl _ _).alloc _).alloc _).alloc _).alloc _
  · rintro b (rfl | rfl | rfl | rfl) <;> omega

set_option maxHeartbeats 400000 in
theorem vfs_step {w : World} {n B rf rn rk : Nat} {d : DK} (hD : DiskAt w n B rf rn rk d) (hn : n + 1 ≤ 1073741824) :
    Calls Try.prog 38 #[.pointer (some ⟨B, 0, none⟩)] w fun e w' => e = .returned (.int .i64 d.stepE) ∧ DiskAt w' (n + 1) B rf rn rk d.step ∧ Keeps (One B) w w' := by
  have h4 := hD.c4
  have h5 := hD.c5
  have h6 := hD.c6
  have f4 := hD.blk.frozen 4
  have f5 := hD.blk.frozen 5
  have f7 := hD.blk.frozen 7
  have hok := DK.step_ok hD.ok hn
  have H := hD.mono (Nat.le_succ n) hn
  obtain ⟨_, _, s0, s1, a0, a1, n1⟩ := hD.ok
  by_cases hz : d.armed = 0
  · have hzb : (d.armed == 0) = true := by simpa using hz
    have h7 := hD.c7
    have Hz := Lib.hid hz
    clear hz
    go_enter Try.func38, Try.ntmps38
    go_wp2
    go_ret
    have k := ((Keeps.refl (One B) w).setCell (p := ⟨B, 5, none⟩) (.inl rfl) (.int .i64 (-1))).setCell (p := ⟨B, 7, none⟩) (.inl rfl) (.bool (d.fault == 15))
    have hs : d.step = { d with armed := -1, down := d.fault == 15 } := by simp [DK.step, Hz.out]
    refine ⟨by simp [DK.stepE, Hz.out], H.turn k ?_ (by rw [hs]) (by rw [hs]) (by rw [hs]) hok, k⟩
    rw [hs]
    exact (hD.blk.set_ 5 _).set_ 7 _
  · have hzb : (d.armed == 0) = false := by simpa using hz
    have Hz := Lib.hid hz
    clear hz
    go_enter Try.func38, Try.ntmps38
    go_wp2
    all_goals go_ret
    all_goals
      have hs : d.step = { d with armed := max (-1) (d.armed - 1), steps := d.steps + 1 } := by simp [DK.step, Hz.out]
      refine ⟨by simp [DK.stepE, Hz.out], H.turn (((Keeps.refl (One B) w).setCell (p := ⟨B, 5, none⟩) (.inl rfl) _).setCell (p := ⟨B, 4, none⟩) (.inl rfl) _) ?_ (by rw [hs]) (by rw [hs]) (by rw [hs]) hok, ((Keeps.refl (One B) w).setCell (p := ⟨B, 5, none⟩) (.inl rfl) _).setCell (p := ⟨B, 4, none⟩) (.inl rfl) _⟩
      rw [hs]
    · rw [show max (-1) (d.armed - 1) = d.armed - 1 by omega]
      exact (hD.blk.set_ 5 _).set_ 4 _
    · rw [show max (-1) (d.armed - 1) = -1 by omega]
      exact (hD.blk.set_ 5 _).set_ 4 _
end Go.Proofs.Ytmjlbpgngahgmaa
