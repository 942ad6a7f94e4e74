/- The document's disk (glossref04) as a Lean value; its small functions: New, Name, first, done, find, place, Mix. No conditions but the counters' bounds. -/
import Derived.Test.YtmjlbpgngahgmaaVfs4
import Derived.Test.YtmjlbpgngahgmaaRw
namespace Go.Proofs.Ytmjlbpgngahgmaa
open Go.RowKit

structure RD where
  files : List (Int × ByteArray × Int)
  names : List (ByteArray × Int)
  kept : List (ByteArray × Int)
  last : Int
  steps : Int
  armed : Int
  fault : Int
  down : Bool

def encF (p : Int × ByteArray × Int) : List Value := [.int .i64 p.1, .string p.2.1, .int .i64 p.2.2]
def encL (p : ByteArray × Int) : List Value := [.string p.1, .int .i64 p.2]
theorem encF_enc : Enc 3 encF := ⟨fun _ => rfl, fun x u hu => by simp [encF] at hu; rcases hu with rfl | rfl | rfl <;> rfl⟩
theorem encL_enc : Enc 2 encL := ⟨fun _ => rfl, fun x u hu => by simp [encL] at hu; rcases hu with rfl | rfl <;> rfl⟩
theorem elF : ElemT Try.prog 32 76 3 32 :=
  ⟨Try.underlying32, by
    have h : (Try.prog.info? 76).map (fun i => (i.zero, i.size, i.bytes)) = some (some (.agg #[.int .i64 0, .string ⟨#[]⟩, .int .i64 0]), 3, 32) := by kernel_rfl
    obtain ⟨i, hi, h1, h2, h3⟩ := info_parts h
    exact ⟨i, _, hi, h1, h2, h3, rfl⟩, by omega⟩
theorem elL : ElemT Try.prog 33 37 2 24 :=
  ⟨Try.underlying33, by
    have h : (Try.prog.info? 37).map (fun i => (i.zero, i.size, i.bytes)) = some (some (.agg #[.string ⟨#[]⟩, .int .i64 0]), 2, 24) := by kernel_rfl
    obtain ⟨i, hi, h1, h2, h3⟩ := info_parts h
    exact ⟨i, _, hi, h1, h2, h3, rfl⟩, by omega⟩

def RD.cells (r : RD) (vF vN vK : Value) : Array Value := #[vF, vN, vK, .int .i64 r.last, .int .i64 r.steps, .int .i64 r.armed, .int .i64 r.fault, .bool r.down]

structure RD.Ok (n : Nat) (r : RD) : Prop where
  l0 : 0 ≤ r.last
  l1 : r.last ≤ n
  s0 : 0 ≤ r.steps
  s1 : r.steps ≤ n
  a0 : -1 ≤ r.armed
  a1 : r.armed ≤ 9223372036854775807
  n1 : n ≤ 1073741824
  fl : r.files.length ≤ n
  nl : r.names.length ≤ n
  kl : r.kept.length ≤ n

structure RefAt (w : World) (n B : Nat) (vF vN vK : Value) (r : RD) : Prop where
  blk : Blk w B 35 (r.cells vF vN vK)
  files : RowOf w 76 3 encF vF r.files
  names : RowOf w 37 2 encL vN r.names
  kept : RowOf w 37 2 encL vK r.kept
  ok : r.Ok n

def fpR (B : Nat) (vF vN vK : Value) : Nat → Prop := fun k => k = B ∨ OwnB vF k ∨ OwnB vN k ∨ OwnB vK k

theorem RowOf.ne_blk {α : Type} {w : World} {e t : TypeId} {size : Nat} {enc : α → List Value} {v : Value} {l : List α} {g : Nat} {cs : Array Value} (h : RowOf w e size enc v l) (hb : Blk w g t cs) (hne : e ≠ t) : ¬ OwnB v g := by
  intro ho
  rcases h.2 with ⟨rfl, _⟩ | ⟨g', cap, cur, rfl, _, hh, _⟩
  · cases ho
  · have : g' = g := by simpa [OwnB, Value.ownBlock] using ho
    subst this
    unfold Blk at hb
    rw [hh] at hb
    injection hb with hb
    injection hb with _ hb
    exact hne hb
theorem RowOf.ne_row {α β : Type} {w : World} {e t : TypeId} {size size' : Nat} {enc : α → List Value} {enc' : β → List Value} {v u : Value} {l : List α} {m : List β} (h : RowOf w e size enc v l) (h' : RowOf w t size' enc' u m) (hne : e ≠ t) (g : Nat) (hv : OwnB v g) : ¬ OwnB u g := by
  intro hu
  rcases h'.2 with ⟨rfl, _⟩ | ⟨g', cap, cur, rfl, _, hh, _⟩
  · cases hu
  · have : g' = g := by simpa [OwnB, Value.ownBlock] using hu
    subst this
    exact h.ne_blk (t := t) hh hne hv

section
variable {w w' : World} {n B : Nat} {vF vN vK : Value} {r : RD} {S : Nat → Prop}
theorem RefAt.keeps (h : RefAt w n B vF vN vK r) (k : Keeps S w w') (hS : ∀ b, fpR B vF vN vK b → ¬ S b) : RefAt w' n B vF vN vK r :=
  ⟨h.blk.keeps k (hS _ (.inl rfl)), h.files.keeps k (fun b hb => hS b (.inr (.inl hb))), h.names.keeps k (fun b hb => hS b (.inr (.inr (.inl hb)))), h.kept.keeps k (fun b hb => hS b (.inr (.inr (.inr hb)))), h.ok⟩
theorem RefAt.lt (h : RefAt w n B vF vN vK r) : ∀ b, fpR B vF vN vK b → b < w.heap.size := by
  rintro b (rfl | hb | hb | hb)
  · exact h.blk.lt
  · exact h.files.lt b hb
  · exact h.names.lt b hb
  · exact h.kept.lt b hb
theorem RefAt.nF (h : RefAt w n B vF vN vK r) : ¬ OwnB vF B := h.files.ne_blk h.blk (by decide)
theorem RefAt.nN (h : RefAt w n B vF vN vK r) : ¬ OwnB vN B := h.names.ne_blk h.blk (by decide)
theorem RefAt.nK (h : RefAt w n B vF vN vK r) : ¬ OwnB vK B := h.kept.ne_blk h.blk (by decide)
theorem RefAt.c0 (h : RefAt w n B vF vN vK r) : w.cell? ⟨B, 0, none⟩ = some vF := h.blk.cell 0
theorem RefAt.c1 (h : RefAt w n B vF vN vK r) : w.cell? ⟨B, 1, none⟩ = some vN := h.blk.cell 1
theorem RefAt.c2 (h : RefAt w n B vF vN vK r) : w.cell? ⟨B, 2, none⟩ = some vK := h.blk.cell 2
theorem RefAt.c3 (h : RefAt w n B vF vN vK r) : w.cell? ⟨B, 3, none⟩ = some (.int .i64 r.last) := h.blk.cell 3
theorem RefAt.c4 (h : RefAt w n B vF vN vK r) : w.cell? ⟨B, 4, none⟩ = some (.int .i64 r.steps) := h.blk.cell 4
theorem RefAt.c5 (h : RefAt w n B vF vN vK r) : w.cell? ⟨B, 5, none⟩ = some (.int .i64 r.armed) := h.blk.cell 5
theorem RefAt.c6 (h : RefAt w n B vF vN vK r) : w.cell? ⟨B, 6, none⟩ = some (.int .i64 r.fault) := h.blk.cell 6
theorem RefAt.c7 (h : RefAt w n B vF vN vK r) : w.cell? ⟨B, 7, none⟩ = some (.bool r.down) := h.blk.cell 7
theorem RD.Ok.mono {m : Nat} (h : r.Ok n) (hm : n ≤ m) (hb : m ≤ 1073741824) : r.Ok m :=
  ⟨h.l0, by have := h.l1; omega, h.s0, by have := h.s1; omega, h.a0, h.a1, hb, Nat.le_trans h.fl hm, Nat.le_trans h.nl hm, Nat.le_trans h.kl hm⟩
theorem RefAt.mono {m : Nat} (h : RefAt w n B vF vN vK r) (hm : n ≤ m) (hb : m ≤ 1073741824) : RefAt w m B vF vN vK r :=
  ⟨h.blk, h.files, h.names, h.kept, h.ok.mono hm hb⟩
/-- Only the block B turns, and only its counters. -/
theorem RefAt.turn {m : Nat} (h : RefAt w n B vF vN vK r) {r' : RD} (k : Keeps (One B) w w') (hb : Blk w' B 35 (r'.cells vF vN vK)) (hf : r'.files = r.files) (hn : r'.names = r.names) (hk : r'.kept = r.kept)
    (hok : r'.Ok m) : RefAt w' m B vF vN vK r' :=
  ⟨hb, by rw [hf]; exact h.files.keeps k (fun b hb e => h.nF (by rw [← show b = B from e]; exact hb)), by rw [hn]; exact h.names.keeps k (fun b hb e => h.nN (by rw [← show b = B from e]; exact hb)), by rw [hk]; exact h.kept.keeps k (fun b hb e => h.nK (by rw [← show b = B from e]; exact hb)), hok⟩
end

def RD.new : RD := ⟨[], [], [], 0, 0, -1, 0, false⟩

set_option maxHeartbeats 400000 in
theorem ref_new (w : World) : Calls Try.prog 6 #[] w fun e w' => e = .returned (.pointer (some ⟨w.heap.size, 0, none⟩)) ∧ RefAt w' 0 w.heap.size (.slice none 0 0) (.slice none 0 0) (.slice none 0 0) RD.new ∧ Keeps Nil w w' := by
  go_enter Try.func6, Try.ntmps6
  go_wp2
  go_ret
  refine ⟨rfl, ⟨Blk.new w _ _, RowOf.nil _ _ _ _, RowOf.nil _ _ _ _, RowOf.nil _ _ _ _, ⟨by simp [RD.new], by simp [RD.new], by simp [RD.new], by simp [RD.new], by simp [RD.new], by simp [RD.new], by omega, by simp [RD.new], by simp [RD.new], by simp [RD.new]⟩⟩, (Keeps.refl _ _).alloc _⟩

/-- A change is done, or the fault has come. -/
def RD.step (d : RD) : RD := if d.armed = 0 then { d with armed := -1, down := d.fault == 15 } else { d with armed := max (-1) (d.armed - 1), steps := d.steps + 1 }
def RD.stepE (d : RD) : Int := if d.armed = 0 then d.fault else 0

set_option maxHeartbeats 1000000 in
theorem ref_done {w : World} {n B : Nat} {vF vN vK : Value} {r : RD} (hD : RefAt w n B vF vN vK r) (hn : n + 1 ≤ 1073741824) :
    Calls Try.prog 44 #[.pointer (some ⟨B, 0, none⟩)] w fun e w' => e = .returned (.int .i64 r.stepE) ∧ RefAt w' (n + 1) B vF vN vK r.step ∧ Keeps (One B) w w' := by
  have h4 := hD.c4
  have h5 := hD.c5
  have h6 := hD.c6
  have f4 := hD.blk.frozen 4
  have f5 := hD.blk.frozen 5
  have f7 := hD.blk.frozen 7
  have hok' := hD.ok.mono (Nat.le_succ n) hn
  obtain ⟨l0, l1, s0, s1, a0, a1, n1, q1, q2, q3⟩ := hD.ok
  by_cases hz : r.armed = 0
  · have hzb : (r.armed == 0) = true := by simpa using hz
    have h7 := hD.c7
    have hs : r.step = { r with armed := -1, down := r.fault == 15 } := by simp [RD.step, hz]
    have he : r.stepE = r.fault := by simp [RD.stepE, hz]
    have Hs := Lib.hid hs
    have He := Lib.hid he
    clear hz hs he
    go_enter Try.func44, Try.ntmps44
    go_wp2
    go_ret
    have k := ((Keeps.refl (One B) w).setCell (p := ⟨B, 5, none⟩) (.inl rfl) (.int .i64 (-1))).setCell (p := ⟨B, 7, none⟩) (.inl rfl) (.bool (r.fault == 15))
    rw [Hs.out, He.out]
    exact ⟨rfl, hD.turn k ((hD.blk.set_ 5 _).set_ 7 _) rfl rfl rfl ⟨hok'.l0, hok'.l1, hok'.s0, hok'.s1, by dsimp only; omega, by dsimp only; omega, hn, hok'.fl, hok'.nl, hok'.kl⟩, k⟩
  · have hzb : (r.armed == 0) = false := by simpa using hz
    have hs : r.step = { r with armed := max (-1) (r.armed - 1), steps := r.steps + 1 } := by simp [RD.step, hz]
    have he : r.stepE = 0 := by simp [RD.stepE, hz]
    have Hs := Lib.hid hs
    have He := Lib.hid he
    clear hs he
    by_cases hp : 0 < r.armed
    · have hm : max (-1) (r.armed - 1) = r.armed - 1 := by omega
      have Hm := Lib.hid hm
      clear hz hm
      go_enter Try.func44, Try.ntmps44
      go_wp2
      go_ret
      have k := ((Keeps.refl (One B) w).setCell (p := ⟨B, 5, none⟩) (.inl rfl) (.int .i64 (r.armed - 1))).setCell (p := ⟨B, 4, none⟩) (.inl rfl) (.int .i64 (r.steps + 1))
      rw [Hs.out, He.out, Hm.out]
      exact ⟨rfl, hD.turn k ((hD.blk.set_ 5 _).set_ 4 _) rfl rfl rfl ⟨hok'.l0, hok'.l1, by dsimp only; omega, by dsimp only; omega, by dsimp only; omega, by dsimp only; omega, hn, hok'.fl, hok'.nl, hok'.kl⟩, k⟩
    · have hm : max (-1) (r.armed - 1) = r.armed := by omega
      have Hm := Lib.hid hm
      clear hz hm
      go_enter Try.func44, Try.ntmps44
      go_wp2
      go_ret
      have k := (Keeps.refl (One B) w).setCell (p := ⟨B, 4, none⟩) (.inl rfl) (.int .i64 (r.steps + 1))
      rw [Hs.out, He.out, Hm.out]
      exact ⟨rfl, hD.turn k (hD.blk.set_ 4 _) rfl rfl rfl ⟨hok'.l0, hok'.l1, by dsimp only; omega, by dsimp only; omega, by dsimp only; omega, by dsimp only; omega, hn, hok'.fl, hok'.nl, hok'.kl⟩, k⟩

/-- The first refusals. -/
def firstE (down ok : Bool) : Int := if ok then (if down then 15 else 0) else 1

set_option maxHeartbeats 400000 in
theorem ref_first {w : World} {n B : Nat} {vF vN vK : Value} {r : RD} (hD : RefAt w n B vF vN vK r) (ok : Bool) :
    Calls Try.prog 43 #[.pointer (some ⟨B, 0, none⟩), .bool ok] w fun e w' => e = .returned (.int .i64 (firstE r.down ok)) ∧ w = w' := by
  have h7 := hD.c7
  cases ok with
  | false =>
    go_enter Try.func43, Try.ntmps43
    go_wp2
    go_ret
    exact ⟨rfl, rfl⟩
  | true =>
    cases hd : r.down with
    | true =>
      rw [hd] at h7
      clear hd
      go_enter Try.func43, Try.ntmps43
      go_wp2
      go_ret
      exact ⟨rfl, rfl⟩
    | false =>
      rw [hd] at h7
      clear hd
      go_enter Try.func43, Try.ntmps43
      go_wp2
      go_ret
      exact ⟨rfl, rfl⟩
end Go.Proofs.Ytmjlbpgngahgmaa
