/- The document's disk: Create, Append, Sync, Rename, Remove, SyncDir. No conditions but sizes. -/
import Derived.Test.YtmjlbpgngahgmaaRef3
import Derived.Deep.RegionLaw
import Derived.Deep.RegionWith
namespace Go.Proofs.Ytmjlbpgngahgmaa
open Go.RowKit

def RD.create (r : RD) (x : ByteArray) : Int × RD :=
  if firstE r.down (nameB x) ≠ 0 then (firstE r.down (nameB x), r) else if r.stepE ≠ 0 then (r.stepE, r.step) else
    (0, { r.step with last := r.step.last + 1, files := r.step.files ++ [(r.step.last + 1, ⟨#[]⟩, 0)], names := linkL r.step.names x (r.step.last + 1) })

theorem RD.step_last (d : RD) : d.step.last = d.last := by unfold RD.step; split <;> rfl
theorem RD.step_files (d : RD) : d.step.files = d.files := by unfold RD.step; split <;> rfl
theorem RD.step_names (d : RD) : d.step.names = d.names := by unfold RD.step; split <;> rfl
theorem RD.step_kept (d : RD) : d.step.kept = d.kept := by unfold RD.step; split <;> rfl
theorem RD.Ok.lastTo {n : Nat} {r : RD} {l : Int} (h : r.Ok n) (h0 : 0 ≤ l) (h1 : l ≤ n) : RD.Ok n { r with last := l } := ⟨h0, h1, h.s0, h.s1, h.a0, h.a1, h.n1, h.fl, h.nl, h.kl⟩

section
variable {w w' : World} {n m B : Nat} {vF vN vK v' : Value} {r : RD}
theorem RefAt.nNF (h : RefAt w n B vF vN vK r) (b : Nat) (hb : OwnB vN b) : ¬ OwnB vF b := h.names.ne_row h.files (by decide) b hb
theorem RefAt.nKF (h : RefAt w n B vF vN vK r) (b : Nat) (hb : OwnB vK b) : ¬ OwnB vF b := h.kept.ne_row h.files (by decide) b hb
theorem not_one {v : Value} {B : Nat} (h : ¬ OwnB v B) : ∀ b, OwnB v b → ¬ One B b := fun b hb e => h (by rw [← show b = B from e]; exact hb)
theorem RefAt.putF {fs : List (Int × ByteArray × Int)} (h : RefAt w n B vF vN vK r) (hr : RowOf w' 76 3 encF v' fs) (hk : Keeps (OwnB vF) w w') (hm : n ≤ m) (hm1 : m ≤ 1073741824) (hl : fs.length ≤ m) :
    RefAt (w'.setCell ⟨B, 0, none⟩ v') m B v' vN vK { r with files := fs } ∧ Keeps (One B) w' (w'.setCell ⟨B, 0, none⟩ v') := by
  have kB : Keeps (One B) w' (w'.setCell ⟨B, 0, none⟩ v') := (Keeps.refl (One B) w').setCell (p := ⟨B, 0, none⟩) (.inl rfl) _
  have hb := h.blk.keeps hk h.nF
  have ho := h.ok.mono hm hm1
  exact ⟨⟨hb.set_ 0 _, hr.keeps kB (not_one (hr.ne_blk hb (by decide))), (h.names.keeps hk h.nNF).keeps kB (not_one h.nN), (h.kept.keeps hk h.nKF).keeps kB (not_one h.nK), ⟨ho.l0, ho.l1, ho.s0, ho.s1, ho.a0, ho.a1, ho.n1, hl, ho.nl, ho.kl⟩⟩, kB⟩
theorem RefAt.putN {ns : List (ByteArray × Int)} (h : RefAt w n B vF vN vK r) (hr : RowOf w' 37 2 encL v' ns) (hk : Keeps Nil w w') (hm : n ≤ m) (hm1 : m ≤ 1073741824) (hl : ns.length ≤ m) :
    RefAt (w'.setCell ⟨B, 1, none⟩ v') m B vF v' vK { r with names := ns } ∧ Keeps (One B) w' (w'.setCell ⟨B, 1, none⟩ v') := by
  have kB : Keeps (One B) w' (w'.setCell ⟨B, 1, none⟩ v') := (Keeps.refl (One B) w').setCell (p := ⟨B, 1, none⟩) (.inl rfl) _
  have h' := h.keeps hk (fun _ _ h => h)
  have ho := h.ok.mono hm hm1
  exact ⟨⟨h'.blk.set_ 1 _, h'.files.keeps kB (not_one h.nF), hr.keeps kB (not_one (hr.ne_blk h'.blk (by decide))), h'.kept.keeps kB (not_one h.nK), ⟨ho.l0, ho.l1, ho.s0, ho.s1, ho.a0, ho.a1, ho.n1, ho.fl, hl, ho.kl⟩⟩, kB⟩
theorem RefAt.putK {ks : List (ByteArray × Int)} (h : RefAt w n B vF vN vK r) (hr : RowOf w' 37 2 encL v' ks) (hk : Keeps Nil w w') (hm : n ≤ m) (hm1 : m ≤ 1073741824) (hl : ks.length ≤ m) :
    RefAt (w'.setCell ⟨B, 2, none⟩ v') m B vF vN v' { r with kept := ks } ∧ Keeps (One B) w' (w'.setCell ⟨B, 2, none⟩ v') := by
  have kB : Keeps (One B) w' (w'.setCell ⟨B, 2, none⟩ v') := (Keeps.refl (One B) w').setCell (p := ⟨B, 2, none⟩) (.inl rfl) _
  have h' := h.keeps hk (fun _ _ h => h)
  have ho := h.ok.mono hm hm1
  exact ⟨⟨h'.blk.set_ 2 _, h'.files.keeps kB (not_one h.nF), h'.names.keeps kB (not_one h.nN), hr.keeps kB (not_one (hr.ne_blk h'.blk (by decide))), ⟨ho.l0, ho.l1, ho.s0, ho.s1, ho.a0, ho.a1, ho.n1, ho.fl, ho.nl, hl⟩⟩, kB⟩
end
theorem inRB {B m : Nat} {vF vN vK : Value} : ∀ b, One B b → b < m → fpR B vF vN vK b := fun _ h _ => .inl h
theorem inRF {B m : Nat} {vF vN vK : Value} : ∀ b, OwnB vF b → b < m → fpR B vF vN vK b := fun _ h _ => .inr (.inl h)

set_option maxRecDepth 100000 in
set_option maxHeartbeats 4000000 in
theorem ref_create {w : World} {n B : Nat} {vF vN vK : Value} {r : RD} (hD : RefAt w n B vF vN vK r) (hn : n + 3 ≤ 1073741824) (x : ByteArray) (hx : x.size ≤ 9223372036854775807) :
    Calls Try.prog 16 #[.pointer (some ⟨B, 0, none⟩), .string x] w fun e w' => ∃ vF' vN', e = .returned (.int .i64 (r.create x).1) ∧ RefAt w' (n + 3) B vF' vN' vK (r.create x).2 ∧ Keeps (fpR B vF vN vK) w w' ∧
      (∀ b, fpR B vF' vN' vK b → fpR B vF vN vK b ∨ w.heap.size ≤ b) := by
  by_cases h1 : firstE r.down (nameB x) = 0
  · have b1 : (firstE r.down (nameB x) == 0) = true := by rw [h1]; rfl
    by_cases h2 : r.stepE = 0
    · have b2 : (r.stepE == 0) = true := by rw [h2]; rfl
      have hfin : r.create x = (0, { r.step with last := r.step.last + 1, files := r.step.files ++ [(r.step.last + 1, ⟨#[]⟩, 0)], names := linkL r.step.names x (r.step.last + 1) }) := by
        simp only [RD.create, h1, h2, ne_eq, not_true_eq_false, if_false]
      have Hfin := Lib.hid hfin
      have H2 := Lib.hid h2
      clear hfin h1 h2
      go_enter Try.func16, Try.ntmps16
      go_wp2_with (first
        | (go_at_call 34; refine (ref_name _ _ hx).mono ?_; rintro e w1 ⟨rfl, rfl⟩)
        | (go_at_call 43; refine (ref_first hD _).mono ?_; rintro e w1 ⟨rfl, rfl⟩)
        | (go_at_call 44; refine (ref_done hD (by omega)).mono ?_; rintro e w1 ⟨rfl, hD1, hK1⟩; have c3 := hD1.c3; have f3 := hD1.blk.frozen 3))
      have l0 := hD1.ok.l0
      have hl1 : r.step.last ≤ n := by rw [RD.step_last]; exact hD.ok.l1
      have hfl : r.step.files.length ≤ n := by rw [RD.step_files]; exact hD.ok.fl
      have hnl : r.step.names.length ≤ n := by rw [RD.step_names]; exact hD.ok.nl
      have hK2 := (Keeps.refl (One B) w1).setCell (p := ⟨B, 3, none⟩) (.inl rfl) (.int .i64 (r.step.last + 1))
      have hD2 := hD1.turn (r' := { r.step with last := r.step.last + 1 }) hK2 (hD1.blk.set_ 3 _) rfl rfl rfl (hD1.ok.lastTo (by omega) (by omega))
      rw [show wrap64 (r.step.last + 1) = r.step.last + 1 from IntWalk.wrap64_in _ ⟨by omega, by omega⟩]
      generalize w1.setCell ⟨B, 3, none⟩ (.int .i64 (r.step.last + 1)) = w2 at *
      clear c3 f3
      have c0 := hD2.c0
      have c3 := hD2.c3
      have hbx : Blk (w2.drew.alloc (.cells #[.int .i64 (r.step.last + 1), .string ⟨#[]⟩, .int .i64 0] 76)) w2.heap.size 76 (encF (r.step.last + 1, ⟨#[]⟩, 0)).toArray := Blk.new w2.drew _ _
      have hka : Keeps Nil w2 (w2.drew.alloc (.cells #[.int .i64 (r.step.last + 1), .string ⟨#[]⟩, .int .i64 0] 76)) := ((Keeps.refl Nil w2).drew).alloc _
      have hDa := hD2.keeps hka (fun _ _ h => h)
      have hFa : RowOf (w2.drew.alloc (.cells #[.int .i64 (r.step.last + 1), .string ⟨#[]⟩, .int .i64 0] 76)) 76 3 encF vF r.step.files := hDa.files
      have d0 : (w2.alloc (.cells #[.int .i64 (r.step.last + 1), .string ⟨#[]⟩, .int .i64 0] 76)).cell? ⟨B, 0, none⟩ = some vF := hDa.c0
      go_region_law (first
        | (refine step_row_append rfl (.tmp 27) (.tmp 33) rfl elF encF_enc hFa rfl w2.heap.size 1 rfl (r.step.last + 1, ⟨#[]⟩, 0) hbx (by omega) (by omega) ?_; intro v3 w3 hr3 hk3 hv3 hf3; have y0 : w3.cell? ⟨B, 0, none⟩ = some vF := (hk3.cell (p := ⟨B, 0, none⟩) hDa.blk.lt hDa.nF).trans hDa.c0; have yf : w3.frozen? ⟨B, 0, none⟩ = false := (hDa.blk.keeps hk3 hDa.nF).frozen 0; obtain ⟨g3, cap3, rfl⟩ := hf3))
      all_goals
        obtain ⟨hD4, kB⟩ := hDa.putF (m := n + 2) hr3 hk3 (by omega) (by omega) (by simp; omega)
        have hv4 : ∀ b, OwnB (.slice (some ⟨g3, 0, none⟩) (r.step.files.length + 1) cap3) b → OwnB vF b ∨ w2.heap.size ≤ b := fun b hb => by
          unfold OwnB at hb
          rcases hv3 with e | e <;> rw [e] at hb
          · exact .inl hb
          · injection hb with hb
            exact .inr (by simp only [World.size_alloc, World.size_drew] at hb; omega)
        have kw4 := (((((Keeps.refl (fpR B vF vN vK) w).trans hK1 inRB).trans hK2 inRB).trans hka (fun _ h _ => h.elim)).trans hk3 inRF).trans kB inRB
        have kz := hK1.size
        have kz2 := hK2.size
        have kz4 := kw4.size
        generalize w3.setCell ⟨B, 0, none⟩ (.slice (some ⟨g3, 0, none⟩) (r.step.files.length + 1) cap3) = w4 at *
        clear y0 yf c0 c3 d0
        have c1 := hD4.c1
        have c3 := hD4.c3
        have f1 := hD4.blk.frozen 1
        go_wp2
        go_region_with (go_at_call 45; refine (ref_link hD4.names.drew (show r.step.names.length ≤ _ by omega) x (r.step.last + 1)).mono ?_; rintro e w5 ⟨v5, rfl, hr5, hk5, hn5, hl5⟩; obtain ⟨A5, cc5, rfl, _, _⟩ := hr5.form encL_enc; have hD5 := hD4.keeps (((Keeps.refl Nil w4).drew).same hk5) (fun _ _ h => h); have c1 := hD5.c1; have f1 := hD5.blk.frozen 1)
        all_goals go_wp2
        all_goals go_ret
        all_goals
          have hl5' : (linkL r.step.names x (r.step.last + 1)).length ≤ r.step.names.length + 1 := hl5
          obtain ⟨hD6, kB6⟩ := hD4.putN (m := n + 3) hr5 (((Keeps.refl Nil w4).drew).same hk5) (by omega) hn (show (linkL r.step.names x (r.step.last + 1)).length ≤ _ by omega)
          refine ⟨_, _, ?_, by rw [Hfin.out]; exact hD6, (kw4.trans (((Keeps.refl Nil w4).drew).same hk5) (fun _ h _ => h.elim)).trans kB6 inRB, ?_⟩
          · exact ret_int (by rw [Hfin.out, H2.out])
          · rintro b (hb | hb | hb | hb)
            · exact .inl (.inl hb)
            · rcases hv4 b hb with h | h
              · exact .inl (.inr (.inl h))
              · exact .inr (by omega)
            · exact .inr (Nat.le_trans kz4 (hn5 b hb))
            · exact .inl (.inr (.inr (.inr hb)))
    · have b2 : (r.stepE == 0) = false := by rw [beq_eq_false_iff_ne]; exact h2
      have hfin : r.create x = (r.stepE, r.step) := by
        simp only [RD.create, h1, h2, ne_eq, not_true_eq_false, not_false_eq_true, if_false, if_true]
      have Hfin := Lib.hid hfin
      clear hfin h1 h2
      go_enter Try.func16, Try.ntmps16
      go_wp2_with (first
        | (go_at_call 34; refine (ref_name _ _ hx).mono ?_; rintro e w1 ⟨rfl, rfl⟩)
        | (go_at_call 43; refine (ref_first hD _).mono ?_; rintro e w1 ⟨rfl, rfl⟩)
        | (go_at_call 44; refine (ref_done hD (by omega)).mono ?_; rintro e w1 ⟨rfl, hD1, hK1⟩))
      go_ret
      rw [Hfin.out]
      exact ⟨vF, vN, rfl, hD1.mono (by omega) hn, (Keeps.refl (fpR B vF vN vK) w).trans hK1 inRB, fun b hb => .inl hb⟩
  · have b1 : (firstE r.down (nameB x) == 0) = false := by rw [beq_eq_false_iff_ne]; exact h1
    have hfin : r.create x = (firstE r.down (nameB x), r) := by
      simp only [RD.create, h1, ne_eq, not_false_eq_true, if_true]
    have Hfin := Lib.hid hfin
    clear hfin h1
    go_enter Try.func16, Try.ntmps16
    go_wp2_with (first
      | (go_at_call 34; refine (ref_name _ _ hx).mono ?_; rintro e w1 ⟨rfl, rfl⟩)
      | (go_at_call 43; refine (ref_first hD _).mono ?_; rintro e w1 ⟨rfl, rfl⟩))
    go_ret
    rw [Hfin.out]
    exact ⟨vF, vN, rfl, hD.mono (by omega) hn, Keeps.refl _ _, fun b hb => .inl hb⟩
end Go.Proofs.Ytmjlbpgngahgmaa
