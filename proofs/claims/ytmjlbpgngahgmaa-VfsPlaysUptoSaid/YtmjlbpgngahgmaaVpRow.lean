/- VfsPlays answers true for every script whose values and letters together are at most 1048576; the script reads as it did. -/
import Derived.Test.YtmjlbpgngahgmaaLaw5
import Derived.Test.YtmjlbpgngahgmaaStructRow
import Derived.WalkKit
import Derived.ProofKit
import Derived.OpenShut
import Derived.JoinedCond
import Derived.Carry
namespace Go.Proofs.Ytmjlbpgngahgmaa
open Go.ChangeShapes Go.WideShapes Go.ChangeAt Go.RowKit

theorem ownNone : ownKnob Try.prog.godebug = none := by kernel_rfl
theorem laidB : laidOutB Try.prog = true := by kernel_rfl

set_option maxRecDepth 100000 in
theorem vp_contract (H : Type) (enc : TypeId × Value → H) (W : World) (base : Nat) (args : Array Value) (ds gs : List (DataW H)) (before : List MemPlace)
    (hval : ∀ (j : Nat) t v, Try.f3.params[j]? = some t → args[j]? = some v → Value.okWide Try.prog W .any base t v)
    (hW : DataW.Whole enc Try.prog Try.f3.params.toList Rows.vfsPlaysSpec.vars false W args.toList ds gs before) (hk : Rows.uptoSmall H (ds ++ gs) = true) :
    Calls Try.prog 3 args W fun e W' => ∃ v, e = .returned v ∧ Rows.vfsPlaysSpec.post enc Try.prog Try.f3 false true false false W args v W' := by
  have hW' := hW
  obtain ⟨p, q, hA0, hV, rfl, hfz, hnd⟩ := hW
  have hA : DataW.TrodAll enc Try.prog W 0 (fun _ => true) true Try.f3.params.toList args.toList ds p := hA0
  rw [Try.params3] at hA hval
  obtain ⟨v0, vs0, d0, ds0, p0, q0, hargs, rfl, rfl, h0, r0⟩ := trodAll_cons hA
  obtain ⟨rfl, rfl, rfl⟩ := trodAll_nil r0
  obtain ⟨rfl, rfl⟩ := trodVars_none hV
  obtain rfl : args = #[v0] := by cases args; simp_all
  clear hA0
  simp only [List.append_nil] at hW'
  have hlt : ∀ x ∈ p0, x.block < W.heap.size := fun x hx => hW'.lt x hx
  have h0k := h0
  obtain ⟨fuel, hf⟩ := h0
  obtain ⟨A, len, cap, rfl⟩ := okWide_slice Try.underlying22 (hval 0 22 _ rfl rfl)
  have hbulk := bulk_le hk
  have hS : Script W A len ∧ len ≤ 9223372036854775807 := by
    rcases open_slice_fields Try.underlying22 Try.underlying29 (by kernel_rfl) (by kernel_rfl) hf with ⟨hcs, hx⟩ | ⟨a, len', cap', m, D, Pl, hcs, _, hl, hm, hmm, hx, hall⟩
    · simp [Value.cells] at hcs
      obtain ⟨_, rfl, _⟩ := hcs
      exact ⟨⟨fun i hi => by omega⟩, by omega⟩
    · simp [Value.cells] at hcs
      obtain ⟨rfl, rfl, rfl⟩ := hcs
      simp only [if_true] at hmm
      subst hmm
      simp only [Prod.mk.injEq] at hx
      obtain ⟨rfl, hp0⟩ := hx
      refine ⟨⟨fun i hi => ?_⟩, by unfold maxLen at hm; omega⟩
      obtain ⟨ys, n, hD, _, hyl, hfi⟩ := hall i (by omega)
      obtain ⟨va, ya, ca, yla, ta⟩ := hfi 0 _ rfl
      obtain ⟨vb, yb, cb, ylb, tb⟩ := hfi 1 _ rfl
      obtain ⟨vc, yc, cc, ylc, tc⟩ := hfi 2 _ rfl
      obtain ⟨vd, yd, cd, yld, td⟩ := hfi 3 _ rfl
      obtain ⟨kind, e1, rfl, wa⟩ := DataW.trod_int Try.underlying3 ta
      obtain ⟨sp, e2, rfl, _⟩ := DataW.trod_string Try.underlying9 tb
      obtain ⟨sq, e3, rfl, _⟩ := DataW.trod_string Try.underlying9 tc
      obtain ⟨sm, e4, rfl, wd⟩ := DataW.trod_int Try.underlying3 td
      injection e1 with e1
      injection e2 with e2
      injection e3 with e3
      injection e4 with e4
      subst e1; subst e2; subst e3; subst e4
      have hbD : Rows.uptoBulk (D i) ≤ 1048576 := by
        have h1 := bulk_part (d := D i) (l := (List.range len).map D) (List.mem_map.2 ⟨i, List.mem_range.2 hi, rfl⟩)
        simp only [List.append_nil, Rows.uptoBulkAll, bulk_slice] at hbulk
        omega
      have hst : ∀ (j : Nat) (s : ByteArray), ys[j]? = some (.lit (.string s.data.toList), []) → s.size ≤ 67108864 := fun j s hj => by
        have h1 := bulk_part (H := H) (d := .lit (.string s.data.toList)) (l := ys.map (·.1)) (List.mem_map.2 ⟨_, List.mem_of_getElem? hj, rfl⟩)
        rw [hD, bulk_agg] at hbD
        rw [bulk_string] at h1
        have : s.data.toList.length = s.size := Array.length_toList
        omega
      have hab : a.block < W.heap.size := by
        have : MemPlace.cell a.block (a.off + 0) ∈ p0 := by
          rw [hp0]
          refine List.mem_append_left _ (MemPlace.mem_row.2 ⟨0, ?_, rfl⟩)
          show 0 < _ * 4
          omega
        exact hlt _ this
      exact ⟨a, kind, sp, sq, sm, rfl, hab, ca, cb, cc, cd, hst 1 sp ylb, hst 2 sq ylc, (bounds_i64 wd).2⟩
  refine (vfs_plays hS.1 hS.2).mono fun e W' ⟨he, hkp⟩ => ?_
  subst he
  have hb : Below W.heap.size W W' := hkp.below (fun _ _ h => h)
  exact ⟨_, rfl, post_of_below (pa := p0) (pv := []) hW' (fun _ _ _ => trodAll_cons_mk (shut_bool Try.underlying4 _) trodAll_mk0)
    (fun sp hsp => trodAll_mk1 (WideElems.Trod_stays laidB (by kernel_rfl) (of_decide_eq_true (by kernel_rfl)) h0k (fun x hx => hb.same (hlt x hx)) (fun x hx => hsp x hx)))
    (fun _ _ => rfl) (by simp) hb (ok_one (by kernel_rfl) rfl (okWide_bool_mk Try.underlying4 _))⟩

set_option maxRecDepth 100000 in
theorem vp_lifted (os : Os) (started : os.Started) (H : Type) (enc : TypeId × Value → H) (F : Stop.Interp) :
    ReturnsInHanded {} Try.checked os 3 .any ((Rows.OpenSpec.upto Rows.vfsPlaysSpec).pre6 enc Try.prog Try.f3 Rows.vfsPlaysUptoRow.domain false) (((Rows.OpenSpec.upto Rows.vfsPlaysSpec).at F).post enc Try.prog Try.f3 false true false false) := by
  refine returnsInHanded_of_cond (C := Try.checked) (s := Rows.OpenSpec.upto Rows.vfsPlaysSpec) (k := Rows.uptoSmall) rfl ownNone started (by kernel_rfl) Try.func3
    (OpenSpec.witness (enc := enc) (C := Try.checked) (s := Rows.OpenSpec.upto Rows.vfsPlaysSpec) (k := Rows.uptoSmall) rfl false ⟨#[], #[.slice none 0 0], []⟩ 8 (by kernel_rfl) (by kernel_rfl) (by kernel_rfl)
      (x := ([.nil], [], [])) (by kernel_rfl) rfl (by kernel_rfl)) ?_
  intro W base args ds gs before hval hW _ hk _
  exact vp_contract H enc W base args ds gs before hval hW hk

theorem vp_over : Rows.vfsPlaysUptoRow.holds Try.pinned (Rows.OpenSpec.upto Rows.vfsPlaysSpec) :=
  OpenClaim.holds_of_cond 3 Try.f3 rfl rfl rfl rfl rfl rfl rfl ⟨rfl, rfl, rfl, rfl, rfl⟩ rfl rfl rfl rfl rfl (by kernel_rfl) Try.func3 (by kernel_rfl)
    (of_decide_eq_true (by kernel_rfl)) (by unfold Func.isWrapper; first | (rw [if_pos (by decide +kernel)]; kernel_rfl) | (rw [if_neg (by decide +kernel)]; exact ⟨rfl, rfl⟩))
    (fun os started H enc _ F => vp_lifted os started H enc F)

theorem vfs_plays_upto : Rows.VfsPlaysUptoSaid := vp_over
#print axioms vfs_plays_upto
end Go.Proofs.Ytmjlbpgngahgmaa
