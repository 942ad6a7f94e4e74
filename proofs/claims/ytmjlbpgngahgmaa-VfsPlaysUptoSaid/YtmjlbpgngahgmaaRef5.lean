/- The document's disk: Append, Sync, Rename, Remove, SyncDir, Read, List. No conditions but sizes. -/
import Derived.Test.YtmjlbpgngahgmaaRef4
namespace Go.Proofs.Ytmjlbpgngahgmaa
open Go.RowKit

/-- A file's bytes get others behind them; all are sure, or as many as were. -/
def chF (l : List (Int × ByteArray × Int)) (m : Int) (y : ByteArray) (sync : Bool) : List (Int × ByteArray × Int) :=
  match l[(placeL l m 0).toNat]? with
  | some f => l.set (placeL l m 0).toNat (f.1, f.2.1 ++ y, if sync then ((f.2.1 ++ y).size : Int) else f.2.2)
  | none => l
def RD.change (r : RD) (x y : ByteArray) (sync : Bool) : Int × RD :=
  if firstE r.down (nameB x) ≠ 0 then (firstE r.down (nameB x), r) else if findL r.names x = 0 then (11, r) else if r.stepE ≠ 0 then (r.stepE, r.step) else
    (0, { r.step with files := chF r.step.files (findL r.names x) y sync })

theorem placeL_lt : ∀ (l : List (Int × ByteArray × Int)) (m : Int) (i : Nat), 0 ≤ placeL l m i → placeL l m i < i + l.length
  | [], m, i, h => by simp [placeL] at h
  | p :: r, m, i, h => by
    unfold placeL at h ⊢
    by_cases e : p.1 = m
    · rw [if_pos e]; simp only [List.length_cons]; omega
    · rw [if_neg e] at h ⊢
      have := placeL_lt r m (i + 1) h
      simp at this ⊢
      omega

theorem RefAt.setF {w w' : World} {n B : Nat} {vF vN vK : Value} {r : RD} {fs : List (Int × ByteArray × Int)} (h : RefAt w n B vF vN vK r) (hr : RowOf w' 76 3 encF vF fs) (hk : Keeps (OwnB vF) w w') (hl : fs.length ≤ n) :
    RefAt w' n B vF vN vK { r with files := fs } :=
  ⟨h.blk.keeps hk h.nF, hr, h.names.keeps hk h.nNF, h.kept.keeps hk h.nKF, ⟨h.ok.l0, h.ok.l1, h.ok.s0, h.ok.s1, h.ok.a0, h.ok.a1, h.ok.n1, hl, h.ok.nl, h.ok.kl⟩⟩

set_option maxRecDepth 100000 in
set_option maxHeartbeats 4000000 in
theorem ref_change {w : World} {n B : Nat} {vF vN vK : Value} {r : RD} (hD : RefAt w n B vF vN vK r) (hn : n + 3 ≤ 1073741824) (x y : ByteArray) (sync : Bool) (hx : x.size ≤ 9223372036854775807)
    (hv : findL r.names x ≠ 0 → 0 ≤ placeL r.files (findL r.names x) 0) (hs : ∀ p, p ∈ r.files → p.2.1.size + y.size ≤ 9223372036854775807) :
    Calls Try.prog 46 #[.pointer (some ⟨B, 0, none⟩), .string x, .string y, .bool sync] w fun e w' => e = .returned (.int .i64 (r.change x y sync).1) ∧ RefAt w' (n + 3) B vF vN vK (r.change x y sync).2 ∧ Keeps (fpR B vF vN vK) w w' := by
  have hn1 := hD.ok.n1
  have hfl := hD.ok.fl
  have hnl := hD.ok.nl
  by_cases h1 : firstE r.down (nameB x) = 0
  · have b1 : (firstE r.down (nameB x) != 0) = false := by rw [h1]; rfl
    have c1 := hD.c1
    by_cases hm : findL r.names x = 0
    · have bm : (findL r.names x == 0) = true := by rw [hm]; rfl
      have hfin : r.change x y sync = (11, r) := by
        simp only [RD.change, h1, hm, ne_eq, not_true_eq_false, if_false, if_true]
      have Hfin := Lib.hid hfin
      clear hfin h1 hm hv
      go_enter Try.func46, Try.ntmps46
      go_wp2_with (first
        | (go_at_call 34; refine (ref_name _ _ hx).mono ?_; rintro e w1 ⟨rfl, rfl⟩)
        | (go_at_call 43; refine (ref_first hD _).mono ?_; rintro e w1 ⟨rfl, rfl⟩)
        | (go_at_call 48; refine (ref_find hD.names (by omega) x).mono ?_; rintro e w1 ⟨rfl, rfl⟩))
      go_ret
      rw [Hfin.out]
      exact ⟨rfl, hD.mono (by omega) hn, Keeps.refl _ _⟩
    · have bm : (findL r.names x == 0) = false := by rw [beq_eq_false_iff_ne]; exact hm
      have hp0 := hv hm
      have hp1 := placeL_lt r.files (findL r.names x) 0 hp0
      by_cases h2 : r.stepE = 0
      · have b2 : (r.stepE != 0) = false := by rw [h2]; rfl
        have hfin : r.change x y sync = (0, { r.step with files := chF r.step.files (findL r.names x) y sync }) := by
          simp only [RD.change, h1, hm, h2, ne_eq, not_true_eq_false, if_false]
        have Hfin := Lib.hid hfin
        clear hfin h1 h2 hm hv
        have hm' : ∃ m, findL r.names x = m := ⟨_, rfl⟩
        obtain ⟨m, hm⟩ := hm'
        rw [hm] at hp0 hp1 bm
        have hk' : ∃ k : Nat, placeL r.files m 0 = k := ⟨(placeL r.files m 0).toNat, by omega⟩
        obtain ⟨k, hk⟩ := hk'
        rw [hk] at hp0 hp1
        have hkl : k < r.files.length := by omega
        have Hm := Lib.hid hm
        have Hk := Lib.hid hk
        clear hm hk
        have hgF := hD.nF
        obtain ⟨A, cap, rfl, hcap, hA⟩ := hD.files.form encF_enc
        obtain ⟨g, rfl, hgo, hgl, hc0, hc⟩ := hA k hkl
        have hgB : ¬ One B g := fun e => hgF (by rw [← show g = B from e]; exact hgo)
        obtain ⟨q1, q1f⟩ := hc 1 (.string r.files[k].2.1) rfl
        obtain ⟨q2, q2f⟩ := hc 2 (.int .i64 r.files[k].2.2) rfl
        have hss := hs _ (List.getElem_mem hkl)
        have hk0 : (0 : Int) ≤ (k : Int) := by omega
        have hk1 : (k : Int) < (r.files.length : Int) := by omega
        clear hc hc0 hA hs
        generalize hpp : r.files[k] = p at q1 q2 hss
        have Hp := Lib.hid hpp
        clear hpp
        obtain ⟨fn, fd, fs⟩ := p
        simp only at q1 q2 hss
        have hnot : ¬ 9223372036854775807 < fd.size + y.size := by omega
        go_enter Try.func46, Try.ntmps46
        go_wp2_with (first
          | (go_at_call 34; refine (ref_name _ _ hx).mono ?_; rintro e w1 ⟨rfl, rfl⟩)
          | (go_at_call 43; refine (ref_first hD _).mono ?_; rintro e w1 ⟨rfl, rfl⟩)
          | (go_at_call 48; refine (ref_find hD.names (by omega) x).mono ?_; rintro e w1 ⟨rfl, rfl⟩; rw [Hm.out])
          | (go_at_call 44; refine (ref_done hD (by omega)).mono ?_; rintro e w1 ⟨rfl, hD1, hK1⟩; have c0 := hD1.c0; have e1 := (hK1.cell (p := ⟨g, k * 3 + 1, none⟩) hgl hgB).trans q1; have e1f := (hK1.frozen (p := ⟨g, k * 3 + 1, none⟩) hgl hgB).trans q1f; have e2 := (hK1.cell (p := ⟨g, k * 3 + 2, none⟩) hgl hgB).trans q2; have e2f := (hK1.frozen (p := ⟨g, k * 3 + 2, none⟩) hgl hgB).trans q2f)
          | (go_at_call 54; refine (ref_place hD1.files (by rw [RD.step_files]; omega) m).mono ?_; rintro e w2 ⟨rfl, rfl⟩; rw [RD.step_files, Hk.out]))
        go_still_tail 17, (by kernel_rfl)
        have hrow1 : RowOf w1.drew 76 3 encF (.slice (some ⟨g, 0, none⟩) r.files.length cap) r.step.files := hD1.files
        have hkl' : k < r.step.files.length := by rw [RD.step_files]; exact hkl
        have hge : r.step.files[k] = (fn, fd, fs) := by
          have := Hp.out
          simp only [RD.step_files]
          exact this
        have hset := hrow1.set encF_enc (g := g) (k := k) (j := 1) hgo hkl' (by omega) (u := .string (fd ++ y)) (x := (fn, fd ++ y, fs)) (by rw [hge]; rfl)
        have hfl1 : r.step.files.length ≤ n := by rw [RD.step_files]; exact hfl
        have hD2 := hD1.setF hset.1 (((Keeps.refl _ w1).drew).same hset.2) (by rw [List.length_set]; omega)
        have hK2 := ((Keeps.refl (OwnB (.slice (some ⟨g, 0, none⟩) r.files.length cap)) w1).drew).same hset.2
        have hch : chF r.step.files m y sync = r.step.files.set k (fn, fd ++ y, if sync then ((fd ++ y).size : Int) else fs) := by
          unfold chF
          rw [RD.step_files, Hk.out, Int.toNat_natCast, List.getElem?_eq_getElem hkl, Hp.out]
        have Hch := Lib.hid hch
        clear hch hset hge
        cases sync with
        | false =>
          go_wp2
          go_ret
          rw [Hfin.out, Hm.out, Hch.out]
          exact ⟨rfl, hD2.mono (by omega) hn, (((Keeps.refl _ w).trans hK1 inRB).trans hK2 inRF)⟩
        | true =>
          have hD3 : RefAt ((w1.setCell ⟨g, k * 3 + 1, none⟩ (.string (fd ++ y))).drew) (n + 1) B (.slice (some ⟨g, 0, none⟩) r.files.length cap) vN vK { r.step with files := r.step.files.set k (fn, fd ++ y, fs) } := hD2
          have hK3 : Keeps (OwnB (.slice (some ⟨g, 0, none⟩) r.files.length cap)) w1 ((w1.setCell ⟨g, k * 3 + 1, none⟩ (.string (fd ++ y))).drew) := hK2
          clear hD2 hK2
          go_wp2
          generalize (w1.setCell ⟨g, k * 3 + 1, none⟩ (.string (fd ++ y))).drew = w3 at *
          obtain ⟨A', cap', hA', _, hcl⟩ := hD3.files.form encF_enc
          have hlen' : k < (r.step.files.set k (fn, fd ++ y, fs)).length := by rw [List.length_set]; exact hkl'
          obtain ⟨g', hg', hgo', _, _, hc'⟩ := hcl k hlen'
          have hgg : g' = g := by
            rw [hg'] at hA'
            injection hA' with h1
            injection h1 with h1
            injection h1 with h1
            exact h1.symm
          subst hgg
          have hget : (r.step.files.set k (fn, fd ++ y, fs))[k] = (fn, fd ++ y, fs) := by simp
          have z1 := (hc' 1 (.string (fd ++ y)) (by simp only [hget]; rfl)).1
          obtain ⟨z2, z2f⟩ := hc' 2 (.int .i64 fs) (by simp only [hget]; rfl)
          have hrow3 : RowOf w3.drew 76 3 encF (.slice (some ⟨g', 0, none⟩) r.files.length cap) (r.step.files.set k (fn, fd ++ y, fs)) := hD3.files
          have hset := hrow3.set encF_enc (g := g') (k := k) (j := 2) hgo hlen' (by omega) (u := .int .i64 ((fd.size : Int) + (y.size : Int))) (x := (fn, fd ++ y, (fd.size : Int) + (y.size : Int))) (by simp only [hget]; rfl)
          have hD4 := hD3.setF hset.1 (((Keeps.refl _ w3).drew).same hset.2) (by rw [List.length_set, List.length_set]; omega)
          have hK4 := ((Keeps.refl (OwnB (.slice (some ⟨g', 0, none⟩) r.files.length cap)) w3).drew).same hset.2
          rw [List.set_set] at hD4
          have c0 := hD3.c0
          clear hset hget hrow3 hA' hg' hc' hcl hrow1
          go_still_tail 16, (by kernel_rfl)
          go_wp2
          go_ret
          have hsz : ((fd ++ y).size : Int) = (fd.size : Int) + (y.size : Int) := by rw [ByteArray.size_append]; omega
          rw [Hfin.out, Hm.out, Hch.out, if_pos trivial, hsz]
          exact ⟨rfl, hD4.mono (by omega) hn, ((((Keeps.refl _ w).trans hK1 inRB).trans hK3 inRF).trans hK4 inRF)⟩
      · have b2 : (r.stepE != 0) = true := by rw [bne_iff_ne]; exact h2
        have hfin : r.change x y sync = (r.stepE, r.step) := by
          simp only [RD.change, h1, hm, h2, ne_eq, not_true_eq_false, not_false_eq_true, if_false, if_true]
        have Hfin := Lib.hid hfin
        clear hfin h1 h2 hm hv
        go_enter Try.func46, Try.ntmps46
        go_wp2_with (first
          | (go_at_call 34; refine (ref_name _ _ hx).mono ?_; rintro e w1 ⟨rfl, rfl⟩)
          | (go_at_call 43; refine (ref_first hD _).mono ?_; rintro e w1 ⟨rfl, rfl⟩)
          | (go_at_call 48; refine (ref_find hD.names (by omega) x).mono ?_; rintro e w1 ⟨rfl, rfl⟩)
          | (go_at_call 44; refine (ref_done hD (by omega)).mono ?_; rintro e w1 ⟨rfl, hD1, hK1⟩))
        go_ret
        rw [Hfin.out]
        exact ⟨rfl, hD1.mono (by omega) hn, (Keeps.refl _ w).trans hK1 inRB⟩
  · have b1 : (firstE r.down (nameB x) != 0) = true := by rw [bne_iff_ne]; exact h1
    have hfin : r.change x y sync = (firstE r.down (nameB x), r) := by
      simp only [RD.change, h1, ne_eq, not_false_eq_true, if_true]
    have Hfin := Lib.hid hfin
    clear hfin h1 hv
    go_enter Try.func46, Try.ntmps46
    go_wp2_with (first
      | (go_at_call 34; refine (ref_name _ _ hx).mono ?_; rintro e w1 ⟨rfl, rfl⟩)
      | (go_at_call 43; refine (ref_first hD _).mono ?_; rintro e w1 ⟨rfl, rfl⟩))
    go_ret
    rw [Hfin.out]
    exact ⟨rfl, hD.mono (by omega) hn, Keeps.refl _ _⟩

set_option maxHeartbeats 1000000 in
theorem ref_append {w : World} {n B : Nat} {vF vN vK : Value} {r : RD} (hD : RefAt w n B vF vN vK r) (hn : n + 3 ≤ 1073741824) (x y : ByteArray) (hx : x.size ≤ 9223372036854775807)
    (hv : findL r.names x ≠ 0 → 0 ≤ placeL r.files (findL r.names x) 0) (hs : ∀ p, p ∈ r.files → p.2.1.size + y.size ≤ 9223372036854775807) :
    Calls Try.prog 17 #[.pointer (some ⟨B, 0, none⟩), .string x, .string y] w fun e w' => e = .returned (.int .i64 (r.change x y false).1) ∧ RefAt w' (n + 3) B vF vN vK (r.change x y false).2 ∧ Keeps (fpR B vF vN vK) w w' := by
  have HV := Lib.hid hv
  clear hv
  go_enter Try.func17, Try.ntmps17
  go_wp2_with (go_at_call 46; refine (ref_change hD hn x y false hx HV.out hs).mono ?_; rintro e w1 ⟨rfl, hD1, hK1⟩)
  go_ret
  exact ⟨rfl, hD1, hK1⟩
set_option maxHeartbeats 1000000 in
theorem ref_sync {w : World} {n B : Nat} {vF vN vK : Value} {r : RD} (hD : RefAt w n B vF vN vK r) (hn : n + 3 ≤ 1073741824) (x : ByteArray) (hx : x.size ≤ 9223372036854775807)
    (hv : findL r.names x ≠ 0 → 0 ≤ placeL r.files (findL r.names x) 0) (hs : ∀ p, p ∈ r.files → p.2.1.size ≤ 9223372036854775807) :
    Calls Try.prog 19 #[.pointer (some ⟨B, 0, none⟩), .string x] w fun e w' => e = .returned (.int .i64 (r.change x ⟨#[]⟩ true).1) ∧ RefAt w' (n + 3) B vF vN vK (r.change x ⟨#[]⟩ true).2 ∧ Keeps (fpR B vF vN vK) w w' := by
  have HV := Lib.hid hv
  clear hv
  go_enter Try.func19, Try.ntmps19
  go_wp2_with (go_at_call 46; refine (ref_change hD hn x ⟨#[]⟩ true hx HV.out (fun p hp => hs p hp)).mono ?_; rintro e w1 ⟨rfl, hD1, hK1⟩)
  go_ret
  exact ⟨rfl, hD1, hK1⟩
end Go.Proofs.Ytmjlbpgngahgmaa
