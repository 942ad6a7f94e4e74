/- The law's does: one call of both disks. No conditions but sizes. -/
import Derived.Test.YtmjlbpgngahgmaaLaw1
import Derived.Test.YtmjlbpgngahgmaaSim3
import Derived.Test.YtmjlbpgngahgmaaRef8
import Derived.Deep.DrawnRows
namespace Go.Proofs.Ytmjlbpgngahgmaa
open Go.RowKit
set_option linter.unusedSimpArgs false
attribute [local go_sem ↓] Go.wp_at_zero Go.wp_at_succ

/-- The two disks lie in the memory, apart, and are alike; F holds of their blocks. -/
structure PairAt (w : World) (n B C : Nat) (rf rn rk : Nat) (vF vN vK : Value) (d : DK) (r : RD) : Prop where
  disk : DiskAt w n B rf rn rk d
  ref : RefAt w n C vF vN vK r
  sim : Sim d r
  apart : ∀ b, fp4 B rf rn rk b → ¬ fpR C vF vN vK b
/-- All blocks of the two. -/
def fpP (B rf rn rk C : Nat) (vF vN vK : Value) : Nat → Prop := fun b => fp4 B rf rn rk b ∨ fpR C vF vN vK b

theorem PairAt.keeps {w w' : World} {n B C rf rn rk : Nat} {vF vN vK : Value} {d : DK} {r : RD} {S : Nat → Prop} (h : PairAt w n B C rf rn rk vF vN vK d r) (k : Keeps S w w') (hS : ∀ b, fpP B rf rn rk C vF vN vK b → ¬ S b) : PairAt w' n B C rf rn rk vF vN vK d r :=
  ⟨h.disk.keeps k (fun b hb => hS b (.inl hb)), h.ref.keeps k (fun b hb => hS b (.inr hb)), h.sim, h.apart⟩
theorem PairAt.lt {w : World} {n B C rf rn rk : Nat} {vF vN vK : Value} {d : DK} {r : RD} (h : PairAt w n B C rf rn rk vF vN vK d r) : ∀ b, fpP B rf rn rk C vF vN vK b → b < w.heap.size := fun b hb => by
  rcases hb with hb | hb
  · exact h.disk.lt b hb
  · exact h.ref.lt b hb

/-- What a call of both leaves: as a statement of the worlds ahead and behind. -/
def Did (w : World) (n B C rf rn rk : Nat) (vF vN vK : Value) (w' : World) : Prop :=
  ∃ rf' rn' rk' vF' vN' vK' d' r', PairAt w' n B C rf' rn' rk' vF' vN' vK' d' r' ∧ Keeps (fpP B rf rn rk C vF vN vK) w w' ∧ ∀ b, fpP B rf' rn' rk' C vF' vN' vK' b → fpP B rf rn rk C vF vN vK b ∨ w.heap.size ≤ b

theorem did_both {w W w5 w6 : World} {n n' B C rf rn rk rf' rn' rk' : Nat} {vF vN vK vF' vN' vK' : Value} {d d' : DK} {r r' : RD} (h : PairAt w n B C rf rn rk vF vN vK d r) (hW : Keeps Nil w W)
    (hD : DiskAt w5 n' B rf' rn' rk' d') (hK : Keeps (fp4 B rf rn rk) W w5) (hF : ∀ b, fp4 B rf' rn' rk' b → fp4 B rf rn rk b ∨ W.heap.size ≤ b)
    (hR : RefAt w6 n' C vF' vN' vK' r') (hK' : Keeps (fpR C vF vN vK) w5 w6) (hF' : ∀ b, fpR C vF' vN' vK' b → fpR C vF vN vK b ∨ w5.heap.size ≤ b) (hS : Sim d' r') : Did w n' B C rf rn rk vF vN vK w6 := by
  have z1 := hW.size
  have z2 := hK.size
  have hlt := h.lt
  have no : ∀ b, fp4 B rf' rn' rk' b → ¬ fpR C vF vN vK b := fun b hb hr => by
    rcases hF b hb with e | e
    · exact h.apart b e hr
    · have := hlt b (.inr hr); omega
  refine ⟨rf', rn', rk', vF', vN', vK', d', r', ⟨hD.keeps hK' no, hR, hS, fun b hb hr => ?_⟩, ?_, fun b hb => ?_⟩
  · have hl := hD.lt b hb
    rcases hF' b hr with e | e
    · exact no b hb e
    · omega
  · exact ((Keeps.refl (fpP B rf rn rk C vF vN vK) w).trans hW (fun _ h _ => h.elim)).trans hK (fun _ h _ => .inl h) |>.trans hK' (fun _ h _ => .inr h)
  · rcases hb with hb | hb
    · rcases hF b hb with e | e
      · exact .inl (.inl e)
      · exact .inr (by omega)
    · rcases hF' b hb with e | e
      · exact .inl (.inr e)
      · exact .inr (by omega)

/-- A call's argument in its box, beside the two. -/
theorem PairAt.boxed {w W : World} {n B C rf rn rk : Nat} {vF vN vK : Value} {d : DK} {r : RD} (h : PairAt w n B C rf rn rk vF vN vK d r) {b0 : Nat} {cs : Array Value} {t : TypeId} (hb : Blk W b0 t cs) (hz : w.heap.size ≤ b0) {w' : World} (hk : Keeps (fp4 B rf rn rk) W w') :
    Blk w' b0 t cs := hb.keeps hk fun hf => by have := h.lt b0 (.inl hf); omega

set_option maxRecDepth 100000 in
set_option maxHeartbeats 4000000 in
theorem does_create {w : World} {n B C rf rn rk : Nat} {vF vN vK : Value} {d : DK} {r : RD} (h : PairAt w n B C rf rn rk vF vN vK d r) (hn : n + 3 ≤ 16384) (m : Int) (p q : ByteArray) (hp : p.size ≤ 67108864) (hq : q.size ≤ 67108864) (hm : m ≤ 9223372036854775807) :
    Calls Try.prog 7 #[.pointer (some ⟨B, 0, none⟩), .pointer (some ⟨C, 0, none⟩), .agg #[.int .i64 1, .string p, .string q, .int .i64 m]] w fun e w' => e = .returned (.bool true) ∧ Did w (n + 3) B C rf rn rk vF vN vK w' := by
  have hW : Keeps Nil w (w.alloc (.cells #[.int .i64 1, .string p, .string q, .int .i64 m] 29)).drew := ((Keeps.refl Nil w).alloc _).drew
  have hbx : Blk (w.alloc (.cells #[.int .i64 1, .string p, .string q, .int .i64 m] 29)).drew w.heap.size 29 #[.int .i64 1, .string p, .string q, .int .i64 m] := (Blk.new w _ _).drew
  have hD := h.disk.keeps hW (fun _ _ h => h)
  have hR := h.ref.keeps hW (fun _ _ h => h)
  have x0 := hbx.cell 0
  have x1 := hbx.cell 1
  have x2 := hbx.cell 2
  have x3 := hbx.cell 3
  obtain ⟨hs1, hs2⟩ := h.sim.create h.disk.ok.l0 p
  have Hs1 := Lib.hid hs1
  clear hs1
  go_enter Try.func7, Try.ntmps7
  go_wp2
  go_region_held3 (fun w' => w'.cell? ⟨w.heap.size, 1, none⟩ = some (.string p))
    (first | assumption | go_keep)
    (first
      | (go_at_call 9; refine (vfs_create hD (by omega) p).mono ?_; rintro e w5 ⟨rfl, hD5, hK5⟩; have y1 := (h.boxed hbx (Nat.le_refl _) hK5).cell 1; have hR5 := hR.keeps hK5 (fun b hb hb' => h.apart b hb' hb); rw [Hs1.out])
      | (go_at_call 16; refine (ref_create hR5 (by omega) p (by omega)).mono ?_; rintro e w6 ⟨vF6, vN6, rfl, hR6, hK6, hF6⟩; have z1 := (((h.boxed hbx (Nat.le_refl _) hK5).keeps hK6 (fun hf => by have := h.lt _ (.inr hf); omega)).cell 1); have hfin := did_both h hW hD5 hK5 (fun b hb => .inl hb) hR6 hK6 hF6 hs2))
  go_wp2
  go_ret
  exact ⟨rfl, hfin⟩

set_option maxRecDepth 100000 in
set_option maxHeartbeats 4000000 in
theorem does_append {w : World} {n B C rf rn rk : Nat} {vF vN vK : Value} {d : DK} {r : RD} (h : PairAt w n B C rf rn rk vF vN vK d r) (hn : n + 3 ≤ 16384) (m : Int) (p q : ByteArray) (hp : p.size ≤ 67108864) (hq : q.size ≤ 67108864) (hm : m ≤ 9223372036854775807) :
    Calls Try.prog 7 #[.pointer (some ⟨B, 0, none⟩), .pointer (some ⟨C, 0, none⟩), .agg #[.int .i64 2, .string p, .string q, .int .i64 m]] w fun e w' => e = .returned (.bool true) ∧ Did w (n + 3) B C rf rn rk vF vN vK w' := by
  have hW : Keeps Nil w (w.alloc (.cells #[.int .i64 2, .string p, .string q, .int .i64 m] 29)).drew := ((Keeps.refl Nil w).alloc _).drew
  have hbx : Blk (w.alloc (.cells #[.int .i64 2, .string p, .string q, .int .i64 m] 29)).drew w.heap.size 29 #[.int .i64 2, .string p, .string q, .int .i64 m] := (Blk.new w _ _).drew
  have hD := h.disk.keeps hW (fun _ _ h => h)
  have hR := h.ref.keeps hW (fun _ _ h => h)
  have x0 := hbx.cell 0
  have x1 := hbx.cell 1
  have x2 := hbx.cell 2
  have x3 := hbx.cell 3
  have hsm := h.sim.small h.disk.fs
  have hpl := h.sim.placed p
  have HSM : Hid (∀ f, f ∈ r.files → f.2.1.size + q.size ≤ 9223372036854775807) := Lib.hid fun f hf => by have := hsm f hf; omega
  have HPL := Lib.hid hpl
  clear hsm hpl
  obtain ⟨hs1, hs2⟩ := h.sim.append p q
  have Hs1 := Lib.hid hs1
  clear hs1
  go_enter Try.func7, Try.ntmps7
  go_wp2
  go_region_held3 (fun w' => w'.cell? ⟨w.heap.size, 1, none⟩ = some (.string p) ∧ w'.cell? ⟨w.heap.size, 2, none⟩ = some (.string q))
    (first | exact ⟨by assumption, by assumption⟩ | go_keep)
    (first
      | (go_at_call 10; refine (vfs_append hD (by omega) p q hq).mono ?_; rintro e w5 ⟨rfl, hD5, hK5⟩; have y1 := (h.boxed hbx (Nat.le_refl _) hK5).cell 1; have y2 := (h.boxed hbx (Nat.le_refl _) hK5).cell 2; have hR5 := hR.keeps hK5 (fun b hb hb' => h.apart b hb' hb); rw [Hs1.out])
      | (go_at_call 17; refine (ref_append hR5 (by omega) p q (by omega) HPL.out HSM.out).mono ?_; rintro e w6 ⟨rfl, hR6, hK6⟩; have z1 := (((h.boxed hbx (Nat.le_refl _) hK5).keeps hK6 (fun hf => by have := h.lt _ (.inr hf); omega)).cell 1); have z2 := (((h.boxed hbx (Nat.le_refl _) hK5).keeps hK6 (fun hf => by have := h.lt _ (.inr hf); omega)).cell 2); have hfin := did_both h hW hD5 hK5 (fun b hb => .inl hb) hR6 hK6 (fun b hb => .inl hb) hs2))
  go_wp2
  go_ret
  exact ⟨rfl, hfin⟩

set_option maxRecDepth 100000 in
set_option maxHeartbeats 4000000 in
theorem does_sync {w : World} {n B C rf rn rk : Nat} {vF vN vK : Value} {d : DK} {r : RD} (h : PairAt w n B C rf rn rk vF vN vK d r) (hn : n + 3 ≤ 16384) (m : Int) (p q : ByteArray) (hp : p.size ≤ 67108864) (hq : q.size ≤ 67108864) (hm : m ≤ 9223372036854775807) :
    Calls Try.prog 7 #[.pointer (some ⟨B, 0, none⟩), .pointer (some ⟨C, 0, none⟩), .agg #[.int .i64 3, .string p, .string q, .int .i64 m]] w fun e w' => e = .returned (.bool true) ∧ Did w (n + 3) B C rf rn rk vF vN vK w' := by
  have hW : Keeps Nil w (w.alloc (.cells #[.int .i64 3, .string p, .string q, .int .i64 m] 29)).drew := ((Keeps.refl Nil w).alloc _).drew
  have hbx : Blk (w.alloc (.cells #[.int .i64 3, .string p, .string q, .int .i64 m] 29)).drew w.heap.size 29 #[.int .i64 3, .string p, .string q, .int .i64 m] := (Blk.new w _ _).drew
  have hD := h.disk.keeps hW (fun _ _ h => h)
  have hR := h.ref.keeps hW (fun _ _ h => h)
  have x0 := hbx.cell 0
  have x1 := hbx.cell 1
  have x2 := hbx.cell 2
  have x3 := hbx.cell 3
  have hsm := h.sim.small h.disk.fs
  have hpl := h.sim.placed p
  have HSM : Hid (∀ f, f ∈ r.files → f.2.1.size ≤ 9223372036854775807) := Lib.hid fun f hf => by have := hsm f hf; omega
  have HPL := Lib.hid hpl
  clear hsm hpl
  obtain ⟨hs1, hs2⟩ := h.sim.sync p
  have Hs1 := Lib.hid hs1
  clear hs1
  go_enter Try.func7, Try.ntmps7
  go_wp2
  go_region_held3 (fun w' => w'.cell? ⟨w.heap.size, 1, none⟩ = some (.string p))
    (first | assumption | go_keep)
    (first
      | (go_at_call 18; refine (vfs_sync hD (by omega) p).mono ?_; rintro e w5 ⟨rfl, hD5, hK5⟩; have y1 := (h.boxed hbx (Nat.le_refl _) hK5).cell 1; have hR5 := hR.keeps hK5 (fun b hb hb' => h.apart b hb' hb); rw [Hs1.out])
      | (go_at_call 19; refine (ref_sync hR5 (by omega) p (by omega) HPL.out HSM.out).mono ?_; rintro e w6 ⟨rfl, hR6, hK6⟩; have z1 := (((h.boxed hbx (Nat.le_refl _) hK5).keeps hK6 (fun hf => by have := h.lt _ (.inr hf); omega)).cell 1); have hfin := did_both h hW hD5 hK5 (fun b hb => .inl hb) hR6 hK6 (fun b hb => .inl hb) hs2))
  go_wp2
  go_ret
  exact ⟨rfl, hfin⟩

set_option maxRecDepth 100000 in
set_option maxHeartbeats 4000000 in
theorem does_rename {w : World} {n B C rf rn rk : Nat} {vF vN vK : Value} {d : DK} {r : RD} (h : PairAt w n B C rf rn rk vF vN vK d r) (hn : n + 3 ≤ 16384) (m : Int) (p q : ByteArray) (hp : p.size ≤ 67108864) (hq : q.size ≤ 67108864) (hm : m ≤ 9223372036854775807) :
    Calls Try.prog 7 #[.pointer (some ⟨B, 0, none⟩), .pointer (some ⟨C, 0, none⟩), .agg #[.int .i64 4, .string p, .string q, .int .i64 m]] w fun e w' => e = .returned (.bool true) ∧ Did w (n + 3) B C rf rn rk vF vN vK w' := by
  have hW : Keeps Nil w (w.alloc (.cells #[.int .i64 4, .string p, .string q, .int .i64 m] 29)).drew := ((Keeps.refl Nil w).alloc _).drew
  have hbx : Blk (w.alloc (.cells #[.int .i64 4, .string p, .string q, .int .i64 m] 29)).drew w.heap.size 29 #[.int .i64 4, .string p, .string q, .int .i64 m] := (Blk.new w _ _).drew
  have hD := h.disk.keeps hW (fun _ _ h => h)
  have hR := h.ref.keeps hW (fun _ _ h => h)
  have x0 := hbx.cell 0
  have x1 := hbx.cell 1
  have x2 := hbx.cell 2
  have x3 := hbx.cell 3
  obtain ⟨hs1, hs2⟩ := h.sim.rename p q
  have Hs1 := Lib.hid hs1
  clear hs1
  go_enter Try.func7, Try.ntmps7
  go_wp2
  go_region_held3 (fun w' => w'.cell? ⟨w.heap.size, 1, none⟩ = some (.string p) ∧ w'.cell? ⟨w.heap.size, 2, none⟩ = some (.string q))
    (first | exact ⟨by assumption, by assumption⟩ | go_keep)
    (first
      | (go_at_call 11; refine (vfs_rename hD (by omega) p q).mono ?_; rintro e w5 ⟨rfl, hD5, hK5⟩; have y1 := (h.boxed hbx (Nat.le_refl _) hK5).cell 1; have y2 := (h.boxed hbx (Nat.le_refl _) hK5).cell 2; have hR5 := hR.keeps hK5 (fun b hb hb' => h.apart b hb' hb); rw [Hs1.out])
      | (go_at_call 20; refine (ref_rename hR5 (by omega) p q (by omega) (by omega)).mono ?_; rintro e w6 ⟨vN6, rfl, hR6, hK6, hF6⟩; have z1 := (((h.boxed hbx (Nat.le_refl _) hK5).keeps hK6 (fun hf => by have := h.lt _ (.inr hf); omega)).cell 1); have z2 := (((h.boxed hbx (Nat.le_refl _) hK5).keeps hK6 (fun hf => by have := h.lt _ (.inr hf); omega)).cell 2); have hfin := did_both h hW hD5 hK5 (fun b hb => .inl hb) hR6 hK6 hF6 hs2))
  go_wp2
  go_ret
  exact ⟨rfl, hfin⟩

set_option maxRecDepth 100000 in
set_option maxHeartbeats 4000000 in
theorem does_remove {w : World} {n B C rf rn rk : Nat} {vF vN vK : Value} {d : DK} {r : RD} (h : PairAt w n B C rf rn rk vF vN vK d r) (hn : n + 3 ≤ 16384) (m : Int) (p q : ByteArray) (hp : p.size ≤ 67108864) (hq : q.size ≤ 67108864) (hm : m ≤ 9223372036854775807) :
    Calls Try.prog 7 #[.pointer (some ⟨B, 0, none⟩), .pointer (some ⟨C, 0, none⟩), .agg #[.int .i64 5, .string p, .string q, .int .i64 m]] w fun e w' => e = .returned (.bool true) ∧ Did w (n + 3) B C rf rn rk vF vN vK w' := by
  have hW : Keeps Nil w (w.alloc (.cells #[.int .i64 5, .string p, .string q, .int .i64 m] 29)).drew := ((Keeps.refl Nil w).alloc _).drew
  have hbx : Blk (w.alloc (.cells #[.int .i64 5, .string p, .string q, .int .i64 m] 29)).drew w.heap.size 29 #[.int .i64 5, .string p, .string q, .int .i64 m] := (Blk.new w _ _).drew
  have hD := h.disk.keeps hW (fun _ _ h => h)
  have hR := h.ref.keeps hW (fun _ _ h => h)
  have x0 := hbx.cell 0
  have x1 := hbx.cell 1
  have x2 := hbx.cell 2
  have x3 := hbx.cell 3
  obtain ⟨hs1, hs2⟩ := h.sim.remove p
  have Hs1 := Lib.hid hs1
  clear hs1
  go_enter Try.func7, Try.ntmps7
  go_wp2
  go_region_held3 (fun w' => w'.cell? ⟨w.heap.size, 1, none⟩ = some (.string p))
    (first | assumption | go_keep)
    (first
      | (go_at_call 21; refine (vfs_remove hD (by omega) p).mono ?_; rintro e w5 ⟨rfl, hD5, hK5⟩; have y1 := (h.boxed hbx (Nat.le_refl _) hK5).cell 1; have hR5 := hR.keeps hK5 (fun b hb hb' => h.apart b hb' hb); rw [Hs1.out])
      | (go_at_call 22; refine (ref_remove hR5 (by omega) p (by omega)).mono ?_; rintro e w6 ⟨vN6, rfl, hR6, hK6, hF6⟩; have z1 := (((h.boxed hbx (Nat.le_refl _) hK5).keeps hK6 (fun hf => by have := h.lt _ (.inr hf); omega)).cell 1); have hfin := did_both h hW hD5 hK5 (fun b hb => .inl hb) hR6 hK6 hF6 hs2))
  go_wp2
  go_ret
  exact ⟨rfl, hfin⟩

theorem turn_k {B rf rn rk rk' z : Nat} (h : rk' = rk ∨ z ≤ rk') : ∀ b, fp4 B rf rn rk' b → fp4 B rf rn rk b ∨ z ≤ b := by
  rintro b (e | e | e | e)
  · exact .inl (.inl e)
  · exact .inl (.inr (.inl e))
  · exact .inl (.inr (.inr (.inl e)))
  · rcases h with h | h
    · exact .inl (.inr (.inr (.inr (by omega))))
    · exact .inr (by omega)
theorem keeps_B {w w' : World} {B rf rn rk : Nat} (h : Keeps (One B) w w') : Keeps (fp4 B rf rn rk) w w' := h.mono fun _ _ hb => .inl hb
theorem keeps_C {w w' : World} {C : Nat} {vF vN vK : Value} (h : Keeps (One C) w w') : Keeps (fpR C vF vN vK) w w' := h.mono fun _ _ hb => .inl hb

set_option maxRecDepth 100000 in
set_option maxHeartbeats 4000000 in
theorem does_syncDir {w : World} {n B C rf rn rk : Nat} {vF vN vK : Value} {d : DK} {r : RD} (h : PairAt w n B C rf rn rk vF vN vK d r) (hn : n + 3 ≤ 16384) (m : Int) (p q : ByteArray) (hp : p.size ≤ 67108864) (hq : q.size ≤ 67108864) (hm : m ≤ 9223372036854775807) :
    Calls Try.prog 7 #[.pointer (some ⟨B, 0, none⟩), .pointer (some ⟨C, 0, none⟩), .agg #[.int .i64 6, .string p, .string q, .int .i64 m]] w fun e w' => e = .returned (.bool true) ∧ Did w (n + 3) B C rf rn rk vF vN vK w' := by
  have hW : Keeps Nil w (w.alloc (.cells #[.int .i64 6, .string p, .string q, .int .i64 m] 29)) := ((Keeps.refl Nil w).alloc _)
  have hbx : Blk (w.alloc (.cells #[.int .i64 6, .string p, .string q, .int .i64 m] 29)) w.heap.size 29 #[.int .i64 6, .string p, .string q, .int .i64 m] := (Blk.new w _ _)
  have hD := h.disk.keeps hW (fun _ _ h => h)
  have hR := h.ref.keeps hW (fun _ _ h => h)
  have x0 := hbx.cell 0
  have x1 := hbx.cell 1
  have x2 := hbx.cell 2
  have x3 := hbx.cell 3
  obtain ⟨hs1, hs2⟩ := h.sim.syncDir
  have Hs1 := Lib.hid hs1
  clear hs1
  go_enter Try.func7, Try.ntmps7
  go_wp2_with (first
      | (go_at_call 23; refine (vfs_syncDir hD (by omega)).mono ?_; rintro e w5 ⟨rk5, rfl, hD5, hK5, hF5⟩; have hR5 := hR.keeps hK5 (fun b hb hb' => h.apart b hb' hb); rw [Hs1.out])
      | (go_at_call 24; refine (ref_syncDir hR5 (by omega)).mono ?_; rintro e w6 ⟨vK6, rfl, hR6, hK6, hF6⟩; have hfin := did_both h hW hD5 hK5 (turn_k hF5) hR6 hK6 hF6 hs2))
  go_ret
  exact ⟨rfl, hfin⟩

set_option maxRecDepth 100000 in
set_option maxHeartbeats 4000000 in
theorem does_arm {w : World} {n B C rf rn rk : Nat} {vF vN vK : Value} {d : DK} {r : RD} (h : PairAt w n B C rf rn rk vF vN vK d r) (hn : n + 3 ≤ 16384) (m : Int) (p q : ByteArray) (hp : p.size ≤ 67108864) (hq : q.size ≤ 67108864) (hm : m ≤ 9223372036854775807) :
    Calls Try.prog 7 #[.pointer (some ⟨B, 0, none⟩), .pointer (some ⟨C, 0, none⟩), .agg #[.int .i64 7, .string p, .string q, .int .i64 m]] w fun e w' => e = .returned (.bool true) ∧ Did w (n + 3) B C rf rn rk vF vN vK w' := by
  have hW : Keeps Nil w (w.alloc (.cells #[.int .i64 7, .string p, .string q, .int .i64 m] 29)).drew := ((Keeps.refl Nil w).alloc _).drew
  have hbx : Blk (w.alloc (.cells #[.int .i64 7, .string p, .string q, .int .i64 m] 29)).drew w.heap.size 29 #[.int .i64 7, .string p, .string q, .int .i64 m] := (Blk.new w _ _).drew
  have hD := h.disk.keeps hW (fun _ _ h => h)
  have hR := h.ref.keeps hW (fun _ _ h => h)
  have x0 := hbx.cell 0
  have x1 := hbx.cell 1
  have x2 := hbx.cell 2
  have x3 := hbx.cell 3
  have hs2 := h.sim.arm m (faultI p)
  go_enter Try.func7, Try.ntmps7
  go_wp2
  go_region_held3 (fun w' => w'.cell? ⟨w.heap.size, 1, none⟩ = some (.string p) ∧ w'.cell? ⟨w.heap.size, 3, none⟩ = some (.int .i64 m))
    (first | exact ⟨by assumption, by assumption⟩ | go_keep)
    (first
      | (go_at_call 26; refine (law_fault p _).mono ?_; rintro e w5 ⟨rfl, rfl⟩)
      | (go_at_call 25; refine (vfs_arm hD m _ hm).mono ?_; rintro e w5 ⟨rfl, hD5, hK5'⟩; have hK5 : Keeps (fp4 B rf rn rk) _ _ := keeps_B hK5'; have y1 := (h.boxed hbx (Nat.le_refl _) hK5).cell 1; have y3 := (h.boxed hbx (Nat.le_refl _) hK5).cell 3; have hR5 := hR.keeps hK5 (fun b hb hb' => h.apart b hb' hb))
      | (go_at_call 27; refine (ref_arm hR5 m _ hm).mono ?_; rintro e w6 ⟨rfl, hR6, hK6'⟩; have hK6 : Keeps (fpR C vF vN vK) _ _ := keeps_C hK6'; have z1 := (((h.boxed hbx (Nat.le_refl _) hK5).keeps hK6 (fun hf => by have := h.lt _ (.inr hf); omega)).cell 1); have z3 := (((h.boxed hbx (Nat.le_refl _) hK5).keeps hK6 (fun hf => by have := h.lt _ (.inr hf); omega)).cell 3); have hfin := did_both h hW (hD5.mono (by omega : n ≤ n + 3) (by omega)) hK5 (fun b hb => .inl hb) (hR6.mono (by omega : n ≤ n + 3) (by omega)) hK6 (fun b hb => .inl hb) hs2))
  go_wp2
  go_ret
  exact ⟨rfl, hfin⟩

set_option maxRecDepth 100000 in
set_option maxHeartbeats 4000000 in
theorem does_calm {w : World} {n B C rf rn rk : Nat} {vF vN vK : Value} {d : DK} {r : RD} (h : PairAt w n B C rf rn rk vF vN vK d r) (hn : n + 3 ≤ 16384) (m : Int) (p q : ByteArray) (hp : p.size ≤ 67108864) (hq : q.size ≤ 67108864) (hm : m ≤ 9223372036854775807) :
    Calls Try.prog 7 #[.pointer (some ⟨B, 0, none⟩), .pointer (some ⟨C, 0, none⟩), .agg #[.int .i64 8, .string p, .string q, .int .i64 m]] w fun e w' => e = .returned (.bool true) ∧ Did w (n + 3) B C rf rn rk vF vN vK w' := by
  have hW : Keeps Nil w (w.alloc (.cells #[.int .i64 8, .string p, .string q, .int .i64 m] 29)) := ((Keeps.refl Nil w).alloc _)
  have hbx : Blk (w.alloc (.cells #[.int .i64 8, .string p, .string q, .int .i64 m] 29)) w.heap.size 29 #[.int .i64 8, .string p, .string q, .int .i64 m] := (Blk.new w _ _)
  have hD := h.disk.keeps hW (fun _ _ h => h)
  have hR := h.ref.keeps hW (fun _ _ h => h)
  have x0 := hbx.cell 0
  have x1 := hbx.cell 1
  have x2 := hbx.cell 2
  have x3 := hbx.cell 3
  have hs2 := h.sim.calm
  go_enter Try.func7, Try.ntmps7
  go_wp2_with (first
      | (go_at_call 28; refine (vfs_calm hD).mono ?_; rintro e w5 ⟨rfl, hD5, hK5'⟩; have hK5 : Keeps (fp4 B rf rn rk) _ _ := keeps_B hK5'; have hR5 := hR.keeps hK5 (fun b hb hb' => h.apart b hb' hb); have q5 := hR5.c5; have qf5 := hR5.blk.frozen 5))
  go_ret
  have kC : Keeps (One C) w5 (w5.setCell ⟨C, 5, none⟩ (.int .i64 (-1))) := (Keeps.refl (One C) w5).setCell (p := ⟨C, 5, none⟩) (.inl rfl) _
  have hok := hR5.ok
  have hR6 : RefAt (w5.setCell ⟨C, 5, none⟩ (.int .i64 (-1))) n C vF vN vK { r with armed := -1 } := hR5.turn kC (hR5.blk.set_ 5 _) rfl rfl rfl ⟨hok.l0, hok.l1, hok.s0, hok.s1, by simp, by simp, hok.n1, hok.fl, hok.nl, hok.kl⟩
  exact ⟨rfl, did_both h hW (hD5.mono (by omega : n ≤ n + 3) (by omega)) hK5 (fun b hb => .inl hb) (hR6.mono (by omega : n ≤ n + 3) (by omega)) (keeps_C kC) (fun b hb => .inl hb) hs2⟩

theorem turn_all {B rf rn rk rf' rn' rk' z : Nat} (h1 : z ≤ rf') (h2 : z ≤ rn') (h3 : z ≤ rk') : ∀ b, fp4 B rf' rn' rk' b → fp4 B rf rn rk b ∨ z ≤ b := by
  rintro b (e | e | e | e)
  · exact .inl (.inl e)
  · exact .inr (by omega)
  · exact .inr (by omega)
  · exact .inr (by omega)
theorem turn_ref {C z : Nat} {vF vN vK vF' vN' vK' : Value} (h : ∀ b, fpR C vF' vN' vK' b → b = C ∨ z ≤ b) : ∀ b, fpR C vF' vN' vK' b → fpR C vF vN vK b ∨ z ≤ b := fun b hb => by
  rcases h b hb with e | e
  · exact .inl (.inl e)
  · exact .inr e

set_option maxRecDepth 100000 in
set_option maxHeartbeats 4000000 in
theorem does_restart {w : World} {n B C rf rn rk : Nat} {vF vN vK : Value} {d : DK} {r : RD} (h : PairAt w n B C rf rn rk vF vN vK d r) (hn : n + 3 ≤ 16384) (m : Int) (p q : ByteArray) (hp : p.size ≤ 67108864) (hq : q.size ≤ 67108864) (hm : m ≤ 9223372036854775807) :
    Calls Try.prog 7 #[.pointer (some ⟨B, 0, none⟩), .pointer (some ⟨C, 0, none⟩), .agg #[.int .i64 9, .string p, .string q, .int .i64 m]] w fun e w' => e = .returned (.bool true) ∧ Did w (n + 3) B C rf rn rk vF vN vK w' := by
  have hW : Keeps Nil w (w.alloc (.cells #[.int .i64 9, .string p, .string q, .int .i64 m] 29)).drew := ((Keeps.refl Nil w).alloc _).drew
  have hbx : Blk (w.alloc (.cells #[.int .i64 9, .string p, .string q, .int .i64 m] 29)).drew w.heap.size 29 #[.int .i64 9, .string p, .string q, .int .i64 m] := (Blk.new w _ _).drew
  have hD := h.disk.keeps hW (fun _ _ h => h)
  have hR := h.ref.keeps hW (fun _ _ h => h)
  have x0 := hbx.cell 0
  have x1 := hbx.cell 1
  have x2 := hbx.cell 2
  have x3 := hbx.cell 3
  have hsm := h.sim.small h.disk.fs
  have hall : r.all.length ≤ n := by
    have := keyList_le h.sim.all_keys h.disk.un
    rw [List.length_map] at this
    exact this
  have hkn : r.kept.length + r.names.length ≤ 536870912 := by have h1 := h.ref.ok.kl; have h2 := h.ref.ok.nl; omega
  have HSM : Hid (∀ f, f ∈ r.files → 0 ≤ f.2.2 ∧ f.2.2 ≤ f.2.1.size ∧ f.2.1.size ≤ 1099511627776) := Lib.hid fun f hf => by have := hsm f hf; omega
  have HPL := Lib.hid (h.sim.left_placed m)
  clear hsm
  go_enter Try.func7, Try.ntmps7
  go_wp2
  go_region_held3 (fun w' => w'.cell? ⟨w.heap.size, 3, none⟩ = some (.int .i64 m))
    (first | assumption | go_keep)
    (first
      | (go_at_call 29; refine (vfs_restart hD m).mono ?_; rintro e w5 ⟨rf5, rn5, rk5, d5, rfl, hd5, hD5, hK5', hz1, hz2, hz3⟩; have hK5 : Keeps (fp4 B rf rn rk) _ _ := keeps_B hK5'; have y3 := (h.boxed hbx (Nat.le_refl _) hK5).cell 3; have hR5 := hR.keeps hK5 (fun b hb hb' => h.apart b hb' hb))
      | (go_at_call 30; refine (ref_restart hR5 m hkn hall HPL.out HSM.out).mono ?_; rintro e w6 ⟨vF6, vN6, vK6, rfl, hR6, hK6', hF6⟩; have hK6 : Keeps (fpR C vF vN vK) _ _ := keeps_C hK6'; have z3 := (((h.boxed hbx (Nat.le_refl _) hK5).keeps hK6 (fun hf => by have := h.lt _ (.inr hf); omega)).cell 3); have hfin := did_both h hW (hD5.mono (by omega : n ≤ n + 3) (by omega)) hK5 (turn_all hz1 hz2 hz3) (hR6.mono (by omega : n ≤ n + 3) (by omega)) hK6 (turn_ref hF6) (h.sim.restart m hd5)))
  go_wp2
  go_ret
  exact ⟨rfl, hfin⟩

set_option maxRecDepth 100000 in
set_option maxHeartbeats 4000000 in
theorem does_none {w : World} {n B C rf rn rk : Nat} {vF vN vK : Value} {d : DK} {r : RD} (h : PairAt w n B C rf rn rk vF vN vK d r) (hn : n + 3 ≤ 16384) (kind m : Int) (p q : ByteArray) (hk : kind < 1 ∨ 9 < kind) :
    Calls Try.prog 7 #[.pointer (some ⟨B, 0, none⟩), .pointer (some ⟨C, 0, none⟩), .agg #[.int .i64 kind, .string p, .string q, .int .i64 m]] w fun e w' => e = .returned (.bool true) ∧ Did w (n + 3) B C rf rn rk vF vN vK w' := by
  have c1 : (kind == 1) = false := by rw [beq_eq_false_iff_ne]; omega
  have c2 : (kind == 2) = false := by rw [beq_eq_false_iff_ne]; omega
  have c3 : (kind == 3) = false := by rw [beq_eq_false_iff_ne]; omega
  have c4 : (kind == 4) = false := by rw [beq_eq_false_iff_ne]; omega
  have c5 : (kind == 5) = false := by rw [beq_eq_false_iff_ne]; omega
  have c6 : (kind == 6) = false := by rw [beq_eq_false_iff_ne]; omega
  have c7 : (kind == 7) = false := by rw [beq_eq_false_iff_ne]; omega
  have c8 : (kind == 8) = false := by rw [beq_eq_false_iff_ne]; omega
  have c9 : (kind == 9) = false := by rw [beq_eq_false_iff_ne]; omega
  have hW : Keeps Nil w (w.alloc (.cells #[.int .i64 kind, .string p, .string q, .int .i64 m] 29)) := ((Keeps.refl Nil w).alloc _)
  clear hk
  go_enter Try.func7, Try.ntmps7
  go_wp2
  go_ret
  exact ⟨rfl, did_both h hW ((h.disk.keeps hW (fun _ _ h => h)).mono (by omega : n ≤ n + 3) (by omega)) (Keeps.refl _ _) (fun b hb => .inl hb) ((h.ref.keeps hW (fun _ _ h => h)).mono (by omega : n ≤ n + 3) (by omega)) (Keeps.refl _ _) (fun b hb => .inl hb) h.sim⟩

theorem law_does {w : World} {n B C rf rn rk : Nat} {vF vN vK : Value} {d : DK} {r : RD} (h : PairAt w n B C rf rn rk vF vN vK d r) (hn : n + 3 ≤ 16384) (kind m : Int) (p q : ByteArray) (hp : p.size ≤ 67108864) (hq : q.size ≤ 67108864) (hm : m ≤ 9223372036854775807) :
    Calls Try.prog 7 #[.pointer (some ⟨B, 0, none⟩), .pointer (some ⟨C, 0, none⟩), .agg #[.int .i64 kind, .string p, .string q, .int .i64 m]] w fun e w' => e = .returned (.bool true) ∧ Did w (n + 3) B C rf rn rk vF vN vK w' := by
  by_cases hk : kind < 1 ∨ 9 < kind
  · exact does_none h hn kind m p q hk
  · have h9 : kind = 1 ∨ kind = 2 ∨ kind = 3 ∨ kind = 4 ∨ kind = 5 ∨ kind = 6 ∨ kind = 7 ∨ kind = 8 ∨ kind = 9 := by omega
    rcases h9 with rfl | rfl | rfl | rfl | rfl | rfl | rfl | rfl | rfl
    · exact does_create h hn m p q hp hq hm
    · exact does_append h hn m p q hp hq hm
    · exact does_sync h hn m p q hp hq hm
    · exact does_rename h hn m p q hp hq hm
    · exact does_remove h hn m p q hp hq hm
    · exact does_syncDir h hn m p q hp hq hm
    · exact does_arm h hn m p q hp hq hm
    · exact does_calm h hn m p q hp hq hm
    · exact does_restart h hn m p q hp hq hm
end Go.Proofs.Ytmjlbpgngahgmaa
