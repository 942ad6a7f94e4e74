/- The law's awake: a file that is renamed. No conditions. -/
import Derived.Test.YtmjlbpgngahgmaaLaw1
import Derived.Test.YtmjlbpgngahgmaaSim3
import Derived.Test.YtmjlbpgngahgmaaRef7
namespace Go.Proofs.Ytmjlbpgngahgmaa
open Go.RowKit
set_option linter.unusedSimpArgs false

def nA : ByteArray := ⟨#[97]⟩
def nHi : ByteArray := ⟨#[104, 105]⟩
def nB1 : ByteArray := ⟨#[98, 46, 49]⟩
def awD1 : DK := (DK.new.create nA).2
def awD2 : DK := (awD1.change nA (addF nHi)).2
def awD3 : DK := (awD2.rename nA nB1).2
def awR3 : RD := (((RD.new.create nA).2.change nA nHi false).2.rename nA nB1).2
theorem aw_sim : Sim awD3 awR3 := ((((Sim.new.create (Int.le_refl 0) nA).2).append nA nHi).2.rename nA nB1).2
theorem aw_e1 : (DK.new.create nA).1 = 0 := by kernel_rfl
theorem aw_e2 : (awD1.change nA (addF nHi)).1 = 0 := by kernel_rfl
theorem aw_e3 : (awD2.rename nA nB1).1 = 0 := by kernel_rfl
theorem aw_read : awD3.read nB1 = (nHi, 0) := by kernel_rfl
theorem aw_steps : awD3.steps = 3 := by kernel_rfl
theorem aw_list : awR3.list = [nB1] := by kernel_rfl

theorem one_text (w : World) (x : ByteArray) : OwnTexts (w.alloc (.cells #[.string x] 9)) 0 (.slice (some ⟨w.heap.size, 0, none⟩) 1 1) [x] :=
  ⟨rfl, .inr ⟨w.heap.size, 1, #[.string x], rfl, Nat.zero_le _, heap_alloc_new w _, Nat.le_refl _, by unfold maxLen; omega, rfl, rfl⟩⟩

set_option maxRecDepth 100000 in
set_option maxHeartbeats 4000000 in
theorem law_awake (w : World) : Calls Try.prog 5 #[] w fun e w' => e = .returned (.bool true) ∧ Keeps Nil w w' := by
  have hbq : (nHi.toList == [104, 105]) = true := by rw [ByteArray.toList_eq]; rfl
  go_enter Try.func5, Try.ntmps5
  go_wp2_with (first
    | (go_at_call 4; refine (vfs_new _).mono ?_; rintro e w1 ⟨B, rf, rn, rk, rfl, hD0, hK0, hnew⟩)
    | (go_at_call 9; refine (vfs_create hD0 (by omega) nA).mono ?_; rintro e w2 ⟨rfl, hD1, hK1⟩; rw [aw_e1])
    | (go_at_call 10; refine (vfs_append (d := awD1) hD1 (by omega) nA nHi (by decide)).mono ?_; rintro e w3 ⟨rfl, hD2, hK2⟩; rw [aw_e2])
    | (go_at_call 11; refine (vfs_rename (d := awD2) hD2 (by omega) nA nB1).mono ?_; rintro e w4 ⟨rfl, hD3, hK3⟩; rw [aw_e3])
    | (go_at_call 12; refine (vfs_read (d := awD3) hD3 nB1).mono ?_; rintro e w5 ⟨rfl, hK4⟩; rw [aw_read]; have hD4 := hD3.keeps hK4 (fun _ _ h => h))
    | (go_at_call 13; refine (vfs_steps (d := awD3) hD4).mono ?_; rintro e w6 ⟨rfl, rfl⟩; rw [aw_steps])
    | (go_at_call 15; refine (vfs_list (d := awD3) hD4).mono ?_; rintro e w7 ⟨v7, l7, rfl, hl7, _, ho7, hK5⟩; have hl8 := (aw_sim.list hl7).trans aw_list; subst hl8)
    | (go_at_call 14; refine (ref_same (ho7.keeps ((Keeps.refl Nil _).alloc _) (fun _ _ h => h)) (one_text _ nB1) (by decide)).mono ?_; rintro e w8 ⟨rfl, hkn⟩; obtain ⟨n8, rfl⟩ := hkn))
  go_ret
  have z0 := hK0.size
  have z1 := hK1.size
  have z2 := hK2.size
  have k3 : Keeps Nil w w4 := ((hK0.trans hK1 fun b hb hl => by have := hnew b hb; omega).trans hK2 fun b hb hl => by have := hnew b hb; omega).trans hK3 fun b hb hl => by have := hnew b hb; omega
  exact ⟨rfl, (((k3.same hK4).same hK5).alloc _).drewN n8⟩
end Go.Proofs.Ytmjlbpgngahgmaa
