/- The document's disk: Remove, SyncDir, Rename. No conditions but sizes. -/
import Derived.Test.YtmjlbpgngahgmaaRef5
import Derived.Test.YtmjlbpgngahgmaaRw2
namespace Go.Proofs.Ytmjlbpgngahgmaa
open Go.RowKit

def RD.remove (r : RD) (x : ByteArray) : Int × RD :=
  if firstE r.down (nameB x) ≠ 0 then (firstE r.down (nameB x), r) else if findL r.names x = 0 then (11, r) else if r.stepE ≠ 0 then (r.stepE, r.step) else
    (0, { r.step with names := linkL r.step.names x 0 })
def RD.rename (r : RD) (x y : ByteArray) : Int × RD :=
  if firstE r.down (nameB x && nameB y) ≠ 0 then (firstE r.down (nameB x && nameB y), r) else if findL r.names x = 0 then (11, r) else if r.stepE ≠ 0 then (r.stepE, r.step) else
    (0, { r.step with names := linkL (linkL r.step.names x 0) y (findL r.names x) })
def RD.syncDir (r : RD) : Int × RD :=
  if firstE r.down true ≠ 0 then (firstE r.down true, r) else if r.stepE ≠ 0 then (r.stepE, r.step) else (0, { r.step with kept := r.step.names })

theorem new_keeps {w wr w' : World} {o : Obj} {l c : Nat} (hk : Keeps Nil w wr) (h : Keeps (OwnB (.slice (some ⟨wr.heap.size, 0, none⟩) l c)) (wr.alloc o) w') : Keeps Nil w w' :=
  (hk.alloc o).trans h (fun b hb hl => by
    unfold OwnB at hb
    injection hb with hb
    have := hk.size
    have hb : wr.heap.size = b := hb
    omega)

set_option maxRecDepth 100000 in
set_option maxHeartbeats 4000000 in
theorem ref_remove {w : World} {n B : Nat} {vF vN vK : Value} {r : RD} (hD : RefAt w n B vF vN vK r) (hn : n + 3 ≤ 1073741824) (x : ByteArray) (hx : x.size ≤ 9223372036854775807) :
    Calls Try.prog 22 #[.pointer (some ⟨B, 0, none⟩), .string x] w fun e w' => ∃ vN', e = .returned (.int .i64 (r.remove x).1) ∧ RefAt w' (n + 3) B vF vN' vK (r.remove x).2 ∧ Keeps (fpR B vF vN vK) w w' ∧
      (∀ b, fpR B vF vN' vK b → fpR B vF vN vK b ∨ w.heap.size ≤ b) := by
  have hn1 := hD.ok.n1
  have hnl := hD.ok.nl
  by_cases h1 : firstE r.down (nameB x) = 0
  · have b1 : (firstE r.down (nameB x) != 0) = false := by rw [h1]; rfl
    have c1 := hD.c1
    by_cases hm : findL r.names x = 0
    · have bm : (findL r.names x == 0) = true := by rw [hm]; rfl
      have hfin : r.remove x = (11, r) := by
        simp only [RD.remove, h1, hm, ne_eq, not_true_eq_false, if_false, if_true]
      have Hfin := Lib.hid hfin
      clear hfin h1 hm
      go_enter Try.func22, Try.ntmps22
      go_wp2_with (first
        | (go_at_call 34; refine (ref_name _ _ hx).mono ?_; rintro e w1 ⟨rfl, rfl⟩)
        | (go_at_call 43; refine (ref_first hD _).mono ?_; rintro e w1 ⟨rfl, rfl⟩)
        | (go_at_call 48; refine (ref_find hD.names (by omega) x).mono ?_; rintro e w1 ⟨rfl, rfl⟩))
      go_ret
      rw [Hfin.out]
      exact ⟨vN, rfl, hD.mono (by omega) hn, Keeps.refl _ _, fun b hb => .inl hb⟩
    · have bm : (findL r.names x == 0) = false := by rw [beq_eq_false_iff_ne]; exact hm
      by_cases h2 : r.stepE = 0
      · have b2 : (r.stepE == 0) = true := by rw [h2]; rfl
        have hfin : r.remove x = (0, { r.step with names := linkL r.step.names x 0 }) := by
          simp only [RD.remove, h1, hm, h2, ne_eq, not_true_eq_false, if_false]
        have Hfin := Lib.hid hfin
        have H2 := Lib.hid h2
        have hnl1 : r.step.names.length ≤ n := by rw [RD.step_names]; exact hnl
        clear hfin h1 h2 hm
        go_enter Try.func22, Try.ntmps22
        go_wp2_with (first
          | (go_at_call 34; refine (ref_name _ _ hx).mono ?_; rintro e w1 ⟨rfl, rfl⟩)
          | (go_at_call 43; refine (ref_first hD _).mono ?_; rintro e w1 ⟨rfl, rfl⟩)
          | (go_at_call 48; refine (ref_find hD.names (by omega) x).mono ?_; rintro e w1 ⟨rfl, rfl⟩)
          | (go_at_call 44; refine (ref_done hD (by omega)).mono ?_; rintro e w1 ⟨rfl, hD1, hK1⟩; have c1 := hD1.c1)
          | (go_at_call 45; refine (ref_link hD1.names (show r.step.names.length ≤ _ by omega) x 0).mono ?_; rintro e w5 ⟨v5, rfl, hr5, hk5, hn5, hl5⟩; obtain ⟨A5, cc5, rfl, _, _⟩ := hr5.form encL_enc; have hD5 := hD1.keeps hk5 (fun _ _ h => h); have d1 := hD5.c1; have f1 := hD5.blk.frozen 1))
        go_ret
        have hl5' : (linkL r.step.names x 0).length ≤ r.step.names.length + 1 := hl5
        have kz := hK1.size
        obtain ⟨hD6, kB6⟩ := hD1.putN (m := n + 3) hr5 hk5 (by omega) hn (show (linkL r.step.names x 0).length ≤ _ by omega)
        refine ⟨_, ?_, by rw [Hfin.out]; exact hD6, (((Keeps.refl (fpR B vF vN vK) w).trans hK1 inRB).trans hk5 (fun _ h _ => h.elim)).trans kB6 inRB, ?_⟩
        · exact ret_int (by rw [Hfin.out, H2.out])
        · rintro b (hb | hb | hb | hb)
          · exact .inl (.inl hb)
          · exact .inl (.inr (.inl hb))
          · exact .inr (Nat.le_trans kz (hn5 b hb))
          · exact .inl (.inr (.inr (.inr hb)))
      · have b2 : (r.stepE == 0) = false := by rw [beq_eq_false_iff_ne]; exact h2
        have hfin : r.remove x = (r.stepE, r.step) := by
          simp only [RD.remove, h1, hm, h2, ne_eq, not_true_eq_false, not_false_eq_true, if_false, if_true]
        have Hfin := Lib.hid hfin
        clear hfin h1 h2 hm
        go_enter Try.func22, Try.ntmps22
        go_wp2_with (first
          | (go_at_call 34; refine (ref_name _ _ hx).mono ?_; rintro e w1 ⟨rfl, rfl⟩)
          | (go_at_call 43; refine (ref_first hD _).mono ?_; rintro e w1 ⟨rfl, rfl⟩)
          | (go_at_call 48; refine (ref_find hD.names (by omega) x).mono ?_; rintro e w1 ⟨rfl, rfl⟩)
          | (go_at_call 44; refine (ref_done hD (by omega)).mono ?_; rintro e w1 ⟨rfl, hD1, hK1⟩))
        go_ret
        rw [Hfin.out]
        exact ⟨vN, rfl, hD1.mono (by omega) hn, (Keeps.refl _ w).trans hK1 inRB, fun b hb => .inl hb⟩
  · have b1 : (firstE r.down (nameB x) != 0) = true := by rw [bne_iff_ne]; exact h1
    have hfin : r.remove x = (firstE r.down (nameB x), r) := by
      simp only [RD.remove, h1, ne_eq, not_false_eq_true, if_true]
    have Hfin := Lib.hid hfin
    clear hfin h1
    go_enter Try.func22, Try.ntmps22
    go_wp2_with (first
      | (go_at_call 34; refine (ref_name _ _ hx).mono ?_; rintro e w1 ⟨rfl, rfl⟩)
      | (go_at_call 43; refine (ref_first hD _).mono ?_; rintro e w1 ⟨rfl, rfl⟩))
    go_ret
    rw [Hfin.out]
    exact ⟨vN, rfl, hD.mono (by omega) hn, Keeps.refl _ _, fun b hb => .inl hb⟩

set_option maxRecDepth 100000 in
set_option maxHeartbeats 4000000 in
theorem ref_syncDir {w : World} {n B : Nat} {vF vN vK : Value} {r : RD} (hD : RefAt w n B vF vN vK r) (hn : n + 3 ≤ 1073741824) :
    Calls Try.prog 24 #[.pointer (some ⟨B, 0, none⟩)] w fun e w' => ∃ vK', e = .returned (.int .i64 r.syncDir.1) ∧ RefAt w' (n + 3) B vF vN vK' r.syncDir.2 ∧ Keeps (fpR B vF vN vK) w w' ∧
      (∀ b, fpR B vF vN vK' b → fpR B vF vN vK b ∨ w.heap.size ≤ b) := by
  have hn1 := hD.ok.n1
  have hnl := hD.ok.nl
  by_cases h1 : firstE r.down true = 0
  · have b1 : (firstE r.down true == 0) = true := by rw [h1]; rfl
    by_cases h2 : r.stepE = 0
    · have b2 : (r.stepE == 0) = true := by rw [h2]; rfl
      have hfin : r.syncDir = (0, { r.step with kept := r.step.names }) := by
        simp only [RD.syncDir, h1, h2, ne_eq, not_true_eq_false, if_false]
      have Hfin := Lib.hid hfin
      have H2 := Lib.hid h2
      have hnl1 : r.step.names.length ≤ n := by rw [RD.step_names]; exact hnl
      clear hfin h1 h2
      obtain ⟨AN, cN, hvN, _, _⟩ := hD.names.form encL_enc
      subst hvN
      go_enter Try.func24, Try.ntmps24
      go_wp2_with (first
        | (go_at_call 43; refine (ref_first hD _).mono ?_; rintro e w1 ⟨rfl, rfl⟩)
        | (go_at_call 44; refine (ref_done hD (by omega)).mono ?_; rintro e w1 ⟨rfl, hD1, hK1⟩; have c1 := (hD1.keeps ((Keeps.refl Nil w1).alloc (.cells #[] 37)) (fun _ _ h => h)).c1)
        | (at_builtin; refine wpList_row_extend rfl (.tmp 13) (.tmp 17) rfl elL encL_enc (RowOf.empty w1 37 2 encL) rfl (hD1.names.keeps ((Keeps.refl Nil w1).alloc _) (fun _ _ h => h)) rfl (by simp; omega) (by simp; omega) ?_; intro v3 w3 hr3 hk3 hv3 hf3; obtain ⟨A3, c3, rfl⟩ := hf3; have hk4 := new_keeps (Keeps.refl Nil w1) hk3; have hD3 := hD1.keeps hk4 (fun _ _ h => h); have d1 := hD3.c2; have f1 := hD3.blk.frozen 2))
      go_ret
      simp only [List.nil_append, List.length_nil, Nat.zero_add] at hr3 hv3
      have kz := hK1.size
      obtain ⟨hD6, kB6⟩ := hD1.putK (m := n + 3) hr3 hk4 (by omega) hn (by omega)
      refine ⟨_, ?_, by rw [Hfin.out]; exact hD6, (((Keeps.refl (fpR B vF (.slice AN r.names.length cN) vK) w).trans hK1 inRB).trans hk4 (fun _ h _ => h.elim)).trans kB6 inRB, ?_⟩
      · exact ret_int (by rw [Hfin.out, H2.out])
      · rintro b (hb | hb | hb | hb)
        · exact .inl (.inl hb)
        · exact .inl (.inr (.inl hb))
        · exact .inl (.inr (.inr (.inl hb)))
        · unfold OwnB at hb
          rcases hv3 with e | e <;> rw [e] at hb <;> injection hb with hb
          · have hb : w1.heap.size = b := hb
            exact .inr (by omega)
          · have hb : (w1.alloc (.cells #[] 37)).heap.size = b := hb
            exact .inr (by simp only [World.size_alloc] at hb; omega)
    · have b2 : (r.stepE == 0) = false := by rw [beq_eq_false_iff_ne]; exact h2
      have hfin : r.syncDir = (r.stepE, r.step) := by
        simp only [RD.syncDir, h1, h2, ne_eq, not_true_eq_false, not_false_eq_true, if_false, if_true]
      have Hfin := Lib.hid hfin
      clear hfin h1 h2
      go_enter Try.func24, Try.ntmps24
      go_wp2_with (first
        | (go_at_call 43; refine (ref_first hD _).mono ?_; rintro e w1 ⟨rfl, rfl⟩)
        | (go_at_call 44; refine (ref_done hD (by omega)).mono ?_; rintro e w1 ⟨rfl, hD1, hK1⟩))
      go_ret
      rw [Hfin.out]
      exact ⟨vK, rfl, hD1.mono (by omega) hn, (Keeps.refl _ w).trans hK1 inRB, fun b hb => .inl hb⟩
  · have b1 : (firstE r.down true == 0) = false := by rw [beq_eq_false_iff_ne]; exact h1
    have hfin : r.syncDir = (firstE r.down true, r) := by
      simp only [RD.syncDir, h1, ne_eq, not_false_eq_true, if_true]
    have Hfin := Lib.hid hfin
    clear hfin h1
    go_enter Try.func24, Try.ntmps24
    go_wp2_with (first
      | (go_at_call 43; refine (ref_first hD _).mono ?_; rintro e w1 ⟨rfl, rfl⟩))
    go_ret
    rw [Hfin.out]
    exact ⟨vK, rfl, hD.mono (by omega) hn, Keeps.refl _ _, fun b hb => .inl hb⟩

set_option maxRecDepth 100000 in
set_option maxHeartbeats 4000000 in
theorem ref_rename {w : World} {n B : Nat} {vF vN vK : Value} {r : RD} (hD : RefAt w n B vF vN vK r) (hn : n + 3 ≤ 1073741824) (x y : ByteArray) (hx : x.size ≤ 9223372036854775807) (hy : y.size ≤ 9223372036854775807) :
    Calls Try.prog 20 #[.pointer (some ⟨B, 0, none⟩), .string x, .string y] w fun e w' => ∃ vN', e = .returned (.int .i64 (r.rename x y).1) ∧ RefAt w' (n + 3) B vF vN' vK (r.rename x y).2 ∧ Keeps (fpR B vF vN vK) w w' ∧
      (∀ b, fpR B vF vN' vK b → fpR B vF vN vK b ∨ w.heap.size ≤ b) := by
  have hn1 := hD.ok.n1
  have hnl := hD.ok.nl
  cases hX : nameB x with
  | false =>
    have HX := Lib.hid hX
    have h1 : firstE r.down false ≠ 0 := by unfold firstE; simp
    have b1 : (firstE r.down false != 0) = true := by rw [bne_iff_ne]; exact h1
    have hfin : r.rename x y = (firstE r.down false, r) := by
      simp only [RD.rename, hX, Bool.false_and]
      rw [if_pos h1]
    have Hfin := Lib.hid hfin
    clear hfin hX h1
    go_enter Try.func20, Try.ntmps20
    go_wp2_with (first
      | (go_at_call 34; refine (ref_name _ _ (by assumption)).mono ?_; rintro e w1 ⟨rfl, rfl⟩; try rw [HX.out])
      | (go_at_call 43; refine (ref_first hD _).mono ?_; rintro e w1 ⟨rfl, rfl⟩))
    go_ret
    rw [Hfin.out]
    exact ⟨vN, rfl, hD.mono (by omega) hn, Keeps.refl _ _, fun b hb => .inl hb⟩
  | true =>
    have HX := Lib.hid hX
    by_cases h1 : firstE r.down (nameB y) = 0
    · have b1 : (firstE r.down (nameB y) != 0) = false := by rw [h1]; rfl
      have c1 := hD.c1
      by_cases hm : findL r.names x = 0
      · have bm : (findL r.names x == 0) = true := by rw [hm]; rfl
        have hfin : r.rename x y = (11, r) := by
          simp only [RD.rename, hX, Bool.true_and, h1, hm, ne_eq, not_true_eq_false, if_false, if_true]
        have Hfin := Lib.hid hfin
        clear hfin h1 hm hX
        go_enter Try.func20, Try.ntmps20
        go_wp2_with (first
          | (go_at_call 34; refine (ref_name _ _ (by assumption)).mono ?_; rintro e w1 ⟨rfl, rfl⟩; try rw [HX.out])
          | (go_at_call 43; refine (ref_first hD _).mono ?_; rintro e w1 ⟨rfl, rfl⟩)
          | (go_at_call 48; refine (ref_find hD.names (by omega) x).mono ?_; rintro e w1 ⟨rfl, rfl⟩))
        go_ret
        rw [Hfin.out]
        exact ⟨vN, rfl, hD.mono (by omega) hn, Keeps.refl _ _, fun b hb => .inl hb⟩
      · have bm : (findL r.names x == 0) = false := by rw [beq_eq_false_iff_ne]; exact hm
        by_cases h2 : r.stepE = 0
        · have b2 : (r.stepE == 0) = true := by rw [h2]; rfl
          have hfin : r.rename x y = (0, { r.step with names := linkL (linkL r.step.names x 0) y (findL r.names x) }) := by
            simp only [RD.rename, hX, Bool.true_and, h1, hm, h2, ne_eq, not_true_eq_false, if_false]
          have Hfin := Lib.hid hfin
          have H2 := Lib.hid h2
          have hnl1 : r.step.names.length ≤ n := by rw [RD.step_names]; exact hnl
          clear hfin h1 h2 hm hX
          go_enter Try.func20, Try.ntmps20
          go_wp2_with (first
            | (go_at_call 34; refine (ref_name _ _ (by assumption)).mono ?_; rintro e w1 ⟨rfl, rfl⟩; try rw [HX.out])
            | (go_at_call 43; refine (ref_first hD _).mono ?_; rintro e w1 ⟨rfl, rfl⟩)
            | (go_at_call 48; refine (ref_find hD.names (by omega) x).mono ?_; rintro e w1 ⟨rfl, rfl⟩)
            | (go_at_call 44; refine (ref_done hD (by omega)).mono ?_; rintro e w1 ⟨rfl, hD1, hK1⟩; have c1 := hD1.c1)
            | (go_at_call 45; refine (ref_link hPut.1.names (show (linkL r.step.names x 0).length ≤ _ by omega) y (findL r.names x)).mono ?_; rintro e w7 ⟨v7, rfl, hr7, hk7, hn7, hl7⟩; obtain ⟨A7, cc7, rfl, _, _⟩ := hr7.form encL_enc; have hD7 := hPut.1.keeps hk7 (fun _ _ h => h); have d7 := hD7.c1; have f7 := hD7.blk.frozen 1)
            | (go_at_call 45; refine (ref_link hD1.names (show r.step.names.length ≤ _ by omega) x 0).mono ?_; rintro e w5 ⟨v5, rfl, hr5, hk5, hn5, hl5⟩; obtain ⟨A5, cc5, rfl, _, _⟩ := hr5.form encL_enc; have hD5 := hD1.keeps hk5 (fun _ _ h => h); have d1 := hD5.c1; have f1 := hD5.blk.frozen 1; have hl5' : (linkL r.step.names x 0).length ≤ r.step.names.length + 1 := hl5; have hPut := hD1.putN (m := n + 2) hr5 hk5 (by omega) (by omega) (show (linkL r.step.names x 0).length ≤ _ by omega); have d6 := hPut.1.c1; have f6 := hPut.1.blk.frozen 1))
          go_ret
          have hl7' : (linkL (linkL r.step.names x 0) y (findL r.names x)).length ≤ (linkL r.step.names x 0).length + 1 := hl7
          have hkw := (((Keeps.refl (fpR B vF vN vK) w).trans hK1 inRB).trans hk5 (fun _ h _ => h.elim)).trans hPut.2 inRB
          have kz := hkw.size
          obtain ⟨hD8, kB8⟩ := hPut.1.putN (m := n + 3) hr7 hk7 (by omega) hn (show (linkL (linkL r.step.names x 0) y (findL r.names x)).length ≤ _ by omega)
          refine ⟨_, ?_, by rw [Hfin.out]; exact hD8, (hkw.trans hk7 (fun _ h _ => h.elim)).trans kB8 inRB, ?_⟩
          · exact ret_int (by rw [Hfin.out, H2.out])
          · rintro b (hb | hb | hb | hb)
            · exact .inl (.inl hb)
            · exact .inl (.inr (.inl hb))
            · exact .inr (Nat.le_trans kz (hn7 b hb))
            · exact .inl (.inr (.inr (.inr hb)))
        · have b2 : (r.stepE == 0) = false := by rw [beq_eq_false_iff_ne]; exact h2
          have hfin : r.rename x y = (r.stepE, r.step) := by
            simp only [RD.rename, hX, Bool.true_and, h1, hm, h2, ne_eq, not_true_eq_false, not_false_eq_true, if_false, if_true]
          have Hfin := Lib.hid hfin
          clear hfin h1 h2 hm hX
          go_enter Try.func20, Try.ntmps20
          go_wp2_with (first
            | (go_at_call 34; refine (ref_name _ _ (by assumption)).mono ?_; rintro e w1 ⟨rfl, rfl⟩; try rw [HX.out])
            | (go_at_call 43; refine (ref_first hD _).mono ?_; rintro e w1 ⟨rfl, rfl⟩)
            | (go_at_call 48; refine (ref_find hD.names (by omega) x).mono ?_; rintro e w1 ⟨rfl, rfl⟩)
            | (go_at_call 44; refine (ref_done hD (by omega)).mono ?_; rintro e w1 ⟨rfl, hD1, hK1⟩))
          go_ret
          rw [Hfin.out]
          exact ⟨vN, rfl, hD1.mono (by omega) hn, (Keeps.refl _ w).trans hK1 inRB, fun b hb => .inl hb⟩
    · have b1 : (firstE r.down (nameB y) != 0) = true := by rw [bne_iff_ne]; exact h1
      have hfin : r.rename x y = (firstE r.down (nameB y), r) := by
        simp only [RD.rename, hX, Bool.true_and, h1, ne_eq, not_false_eq_true, if_true]
      have Hfin := Lib.hid hfin
      clear hfin h1 hX
      go_enter Try.func20, Try.ntmps20
      go_wp2_with (first
        | (go_at_call 34; refine (ref_name _ _ (by assumption)).mono ?_; rintro e w1 ⟨rfl, rfl⟩; try rw [HX.out])
        | (go_at_call 43; refine (ref_first hD _).mono ?_; rintro e w1 ⟨rfl, rfl⟩))
      go_ret
      rw [Hfin.out]
      exact ⟨vN, rfl, hD.mono (by omega) hn, Keeps.refl _ _, fun b hb => .inl hb⟩
end Go.Proofs.Ytmjlbpgngahgmaa
