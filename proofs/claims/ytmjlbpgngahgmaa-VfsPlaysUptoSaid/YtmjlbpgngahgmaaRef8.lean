/- The document's disk: Restart. No conditions but sizes. -/
import Derived.Test.YtmjlbpgngahgmaaRef8a
import Derived.StillTailTactics
namespace Go.Proofs.Ytmjlbpgngahgmaa
open Go.RowKit
set_option linter.unusedSimpArgs false

set_option maxRecDepth 100000 in
set_option maxHeartbeats 4000000 in
theorem ref_restart {w : World} {n B : Nat} {vF vN vK : Value} {r : RD} (hD : RefAt w n B vF vN vK r) (L : Int) (hkn : r.kept.length + r.names.length ≤ 536870912) (hall : r.all.length ≤ n)
    (hv : ∀ p, p ∈ (r.left L).2 → 0 ≤ placeL r.files p.2 0) (hs : ∀ p, p ∈ r.files → 0 ≤ p.2.2 ∧ p.2.2 ≤ p.2.1.size ∧ p.2.1.size ≤ 1099511627776) :
    Calls Try.prog 30 #[.pointer (some ⟨B, 0, none⟩), .int .i64 L] w fun e w' => ∃ vF' vN' vK', e = .returned (.int .i64 0) ∧ RefAt w' n B vF' vN' vK' (r.restart L) ∧ Keeps (One B) w w' ∧
      (∀ b, fpR B vF' vN' vK' b → b = B ∨ w.heap.size ≤ b) := by
  have hn1 := hD.ok.n1
  have hbl := hD.blk.lt
  have c0 := hD.c0
  have c1 := hD.c1
  have c2 := hD.c2
  have hrN := hD.names
  have hrK := hD.kept
  obtain ⟨A, cap, rfl, hcap, hA⟩ := hD.names.form encL_enc
  have HA := Lib.hid hA
  clear hA
  go_enter Try.func30, Try.ntmps30
  go_wp2
  go_loopw [5, 6] (fun u i wr => ∃ k : Nat, k ≤ r.names.length ∧ i = .int .i64 k ∧ AllRel w r.kept r.names k u wr) (fun _ i _ => r.names.length - (intOf i).toNat)
  case atStart => exact ⟨0, Nat.zero_le _, rfl, ⟨hrK, Nat.le_add_right _ _, Keeps.refl _ _⟩⟩
  case round =>
    obtain ⟨k, hk, rfl, hR⟩ := hrel
    have d1 := (hR.keep.cell (p := ⟨B, 1, none⟩) hbl (fun h => h)).trans c1
    have d2 := (hR.keep.cell (p := ⟨B, 2, none⟩) hbl (fun h => h)).trans c2
    by_cases hlt : k < r.names.length
    · obtain ⟨g, rfl, hgo, hgl, hcl0, hcl⟩ := HA.out k hlt
      have h0 := (hR.keep.cell (p := ⟨g, k * 2, none⟩) hgl (fun h => h)).trans (hcl0 (.string r.names[k].1) rfl).1
      have h1 := (hR.keep.cell (p := ⟨g, k * 2 + 1, none⟩) hgl (fun h => h)).trans (hcl 1 (.int .i64 r.names[k].2) rfl).1
      clear hcl hcl0
      have hlt' : (k : Int) < (r.names.length : Int) := by omega
      have hkr := hR.keep
      have hrow := hR.row
      have hlen := hR.len
      have hs1 := allF_succ r.kept r.names k hlt
      unfold allStep at hs1
      have Hs := Lib.hid hs1
      clear hs1
      have hkl : r.kept.length ≤ 4294967296 := by omega
      generalize r.names[k] = p at h0 h1 Hs
      obtain ⟨pn, pv⟩ := p
      simp only at h0 h1
      by_cases hm : findL r.kept pn = 0
      · have bm : (findL r.kept pn == 0) = true := by rw [hm]; rfl
        have hs2 : allF r.kept r.names (k + 1) = linkL (allF r.kept r.names k) pn pv := by rw [Hs.out, if_pos hm]
        have Hs2 := Lib.hid hs2
        clear hs2 hm
        go_wp2_with fail
        go_quiet ((go_at_call 48; exact quiet_same (ref_find (hrK.keeps (hkr.drewN _) (fun _ _ h => h)) hkl _) rfl))
        go_wp2_with fail
        have e0 : (wr.drewN nq).cell? ⟨g, k * 2, none⟩ = some (.string pn) := h0
        have e1 : (wr.drewN nq).cell? ⟨g, k * 2 + 1, none⟩ = some (.int .i64 pv) := h1
        have e2 : (wr.drewN nq).cell? ⟨B, 1, none⟩ = some (.slice (some ⟨g, 0, none⟩) r.names.length cap) := d1
        have hq : Keeps Nil wr (wr.drewN nq) := (Keeps.refl Nil wr).drewN nq
        generalize wr.drewN nq = w2 at *
        go_still_tail 17, (by kernel_rfl)
        go_wp2_with (go_at_call 45; refine (ref_link (hrow.keeps hq.drew (fun _ _ h => h)) (by omega) _ _).mono ?_; rintro e w5 ⟨v5, rfl, hr5, hk5, hn5, hl5⟩)
        go_roundw
        case rel => exact ⟨k + 1, by omega, by go_num, ⟨by rw [Hs2.out]; exact hr5, by rw [Hs2.out]; omega, (hkr.same hq.drew).same hk5⟩⟩
        case measure => simp [intOf]; omega
      · have bm : (findL r.kept pn == 0) = false := by rw [beq_eq_false_iff_ne]; exact hm
        have hs2 : allF r.kept r.names (k + 1) = allF r.kept r.names k := by rw [Hs.out, if_neg hm]
        have Hs2 := Lib.hid hs2
        clear hs2 hm
        go_wp2_with fail
        go_quiet ((go_at_call 48; exact quiet_same (ref_find (hrK.keeps (hkr.drewN _) (fun _ _ h => h)) hkl _) rfl))
        go_wp2_with fail
        go_roundw
        case rel => exact ⟨k + 1, by omega, by go_num, ⟨by rw [Hs2.out]; exact hrow.keeps ((Keeps.refl Nil wr).drewN _) (fun _ _ h => h), by rw [Hs2.out]; omega, hkr.same ((Keeps.refl Nil wr).drewN _)⟩⟩
        case measure => simp [intOf]; omega
    · have hke : k = r.names.length := by omega
      subst hke
      have hra : RowOf wr 37 2 encL _ r.all := hR.row
      have hkr := hR.keep
      obtain ⟨w1, hw1⟩ : ∃ w1, w1 = wr := ⟨_, rfl⟩
      subst hw1
      obtain ⟨A2, cap2, hu2, hcap2, hA2⟩ := hra.form encL_enc
      subst hu2
      have HA2 := Lib.hid hA2
      have hbl1 : B < w1.heap.size := Nat.lt_of_lt_of_le hbl hkr.size
      have hrK1 := hrK.keeps hkr (fun _ _ h => h)
      have hrN1 := hrN.keeps hkr (fun _ _ h => h)
      have hkl : r.kept.length ≤ 4294967296 := by omega
      have hnl : r.names.length ≤ 4294967296 := by omega
      clear hA2 hR HA c1 c2
      go_wp2
      go_loopw [7, 8, 9] (fun x u i wr => ∃ (k : Nat) (kk : Int), k ≤ r.all.length ∧ i = .int .i64 k ∧ x = .int .u64 kk ∧ KeepRel w1 r L k kk u wr) (fun _ _ i _ => r.all.length - (intOf i).toNat)
      case atStart => exact ⟨0, 0, Nat.zero_le _, rfl, rfl, ⟨RowOf.nil _ _ _ _, rfl, Int.le_refl _, Int.le_refl _, Nat.le_refl _, (fun g h => by cases h), Keeps.refl _ _⟩⟩
      case round =>
        obtain ⟨k, kk, hk, rfl, rfl, hR⟩ := hrel
        have hkr2 := hR.keep
        have d1' := (hkr2.cell (p := ⟨B, 1, none⟩) hbl1 (fun h => h)).trans d1
        have d2' := (hkr2.cell (p := ⟨B, 2, none⟩) hbl1 (fun h => h)).trans d2
        by_cases hlt : k < r.all.length
        · obtain ⟨g, rfl, hgo, hgl, hcl0, hcl⟩ := HA2.out k hlt
          have h0 := (hkr2.cell (p := ⟨g, k * 2, none⟩) hgl (fun h => h)).trans (hcl0 (.string r.all[k].1) rfl).1
          clear hcl hcl0
          have hlt' : (k : Int) < (r.all.length : Int) := by omega
          have hlo := hR.lo
          have hhi := hR.hi
          have hrow := hR.row
          have hlen := hR.len
          generalize hpp : r.all[k] = p at h0
          have Hp := Lib.hid hpp
          generalize hss : r.keepL L k = s at hrow hlen
          have Hs := Lib.hid hss
          have hsn : s.1 = kk := by rw [← hss]; exact hR.num
          obtain ⟨i0, out⟩ := s
          simp only at hsn hrow hlen
          subst hsn
          obtain ⟨pn, pv⟩ := p
          simp only at h0
          clear hpp hss
          go_wp2_with fail
          go_quiet ((go_at_call 48; exact quiet_same (ref_find (hrK1.keeps (hkr2.drewN _) (fun _ _ h => h)) hkl _) rfl))
          have e0 : (wr.drewN nq).cell? ⟨g, k * 2, none⟩ = some (.string pn) := h0
          have e1 : (wr.drewN nq).cell? ⟨B, 1, none⟩ = some (.slice A r.names.length cap) := d1'
          have hq : Keeps Nil wr (wr.drewN nq) := (Keeps.refl Nil wr).drewN nq
          generalize wr.drewN nq = w2 at *
          go_wp2_with fail
          go_quiet ((go_at_call 48; exact quiet_same (ref_find (hrN1.keeps ((hkr2.same hq).drewN _) (fun _ _ h => h)) hnl _) rfl))
          have e2 : (w2.drewN nq).cell? ⟨g, k * 2, none⟩ = some (.string pn) := e0
          have hq2 : Keeps Nil wr (w2.drewN nq) := hq.drewN nq
          generalize w2.drewN nq = w3 at *
          clear e0 e1 h0 d1' d2'
          have hrow3 := hrow.keeps hq2 (fun _ _ h => h)
          have hkr3 := hkr2.same hq2
          have hnew := hR.new
          have ew : IntKind.u64.wrap (i0 + 1) = i0 + 1 := IntWalk.u64_in _ (by omega)
          obtain ⟨z0, z1⟩ := mixI_range (IntKind.u64.wrap L) (i0 + 1)
          have hlk : linkKeep r.kept r.names L (r.keepL L k) r.all[k] = linkKeep r.kept r.names L (i0, out) (pn, pv) := by rw [Hs.out, Hp.out]
          have Hlk := Lib.hid hlk
          clear hlk hR
          generalize hzz : mixI (IntKind.u64.wrap L) (i0 + 1) = z at z0 z1
          have Hz := Lib.hid hzz
          clear hzz
          generalize hxx : findL r.kept pn = x at *
          generalize hyy : findL r.names pn = y at *
          by_cases hxy : x = y
          · subst hxy
            have b1 : (x != x) = false := by rw [bne_eq_false_iff_eq]
            by_cases hv0 : x = 0
            · have b3 : (x != 0) = false := by rw [bne_eq_false_iff_eq]; exact hv0
              have he : linkKeep r.kept r.names L (r.keepL L k) r.all[k] = (i0, out) := by
                rw [Hlk.out]; simp only [linkKeep, hxx, hyy, hv0, ne_eq, not_true_eq_false, not_false_eq_true, false_and, true_and, and_true, and_false, and_self, if_true, if_false]
              have HE := Lib.hid he
              clear he 
              go_wp2_with fail
              go_roundw
              case rel => exact ⟨k + 1, i0, by omega, by go_num, rfl, KeepRel.next hlt HE.out hrow3 (by omega) (by omega) (by omega) hnew hkr3⟩
              case measure => simp [intOf]; omega
            · have b3 : (x != 0) = true := by rw [bne_iff_ne]; exact hv0
              have he : linkKeep r.kept r.names L (r.keepL L k) r.all[k] = (i0, out ++ [(pn, x)]) := by
                rw [Hlk.out]; simp only [linkKeep, hxx, hyy, hv0, ne_eq, not_true_eq_false, not_false_eq_true, false_and, true_and, and_true, and_false, and_self, if_true, if_false]
              have HE := Lib.hid he
              clear he 
              have hbx : Blk (w3.alloc (.cells #[.string pn, .int .i64 x] 37)) w3.heap.size 37 (encL (pn, x)).toArray := Blk.new w3 _ _
              go_wp2_with (at_builtin; refine wpList_row_append rfl (.tmp 101) (.tmp 109) rfl elL encL_enc (hrow3.keeps ((Keeps.refl Nil w3).alloc _) (fun _ _ h => h)) rfl w3.heap.size 1 rfl (pn, x) hbx (by omega) (by omega) ?_; intro v5 w5 hr5 hk5 hv5)
              obtain ⟨q1, q2⟩ := own_step hnew (hkr3.alloc _) hk5 hv5
              go_roundw
              case rel => exact ⟨k + 1, i0, by omega, by go_num, rfl, KeepRel.next hlt HE.out hr5 (by omega) (by omega) (by simp; omega) q1 q2⟩
              case measure => simp [intOf]; omega
          · have b1 : (x != y) = true := by rw [bne_iff_ne]; exact hxy
            by_cases hp : z % 2 = 1
            · have b2 : (z % 2 == 1) = true := by rw [hp]; rfl
              by_cases hv0 : y = 0
              · have b3 : (y != 0) = false := by rw [bne_eq_false_iff_eq]; exact hv0
                have he : linkKeep r.kept r.names L (r.keepL L k) r.all[k] = ((i0 + 1), out) := by
                  rw [Hlk.out]; simp only [linkKeep, hxx, hyy, hxy, ne_eq, not_true_eq_false, not_false_eq_true, false_and, true_and, and_true, and_false, and_self, if_true, if_false]; simp only [Hz.out, hp, hv0, ne_eq, not_true_eq_false, not_false_eq_true, false_and, true_and, and_true, and_false, and_self, if_true, if_false]
                have HE := Lib.hid he
                clear he 
                go_wp2_with (go_at_call 53; refine (ref_mix _ _ _).mono ?_; rintro e w4 ⟨rfl, rfl⟩; rw [Hz.out])
                go_roundw
                case rel => exact ⟨k + 1, (i0 + 1), by omega, by go_num, rfl, KeepRel.next hlt HE.out hrow3 (by omega) (by omega) (by omega) hnew hkr3⟩
                case measure => simp [intOf]; omega
              · have b3 : (y != 0) = true := by rw [bne_iff_ne]; exact hv0
                have he : linkKeep r.kept r.names L (r.keepL L k) r.all[k] = ((i0 + 1), out ++ [(pn, y)]) := by
                  rw [Hlk.out]; simp only [linkKeep, hxx, hyy, hxy, ne_eq, not_true_eq_false, not_false_eq_true, false_and, true_and, and_true, and_false, and_self, if_true, if_false]; simp only [Hz.out, hp, hv0, ne_eq, not_true_eq_false, not_false_eq_true, false_and, true_and, and_true, and_false, and_self, if_true, if_false]
                have HE := Lib.hid he
                clear he 
                have hbx : Blk (w3.alloc (.cells #[.string pn, .int .i64 y] 37)) w3.heap.size 37 (encL (pn, y)).toArray := Blk.new w3 _ _
                go_wp2_with (first | (go_at_call 53; refine (ref_mix _ _ _).mono ?_; rintro e w4 ⟨rfl, rfl⟩; rw [Hz.out]) | (at_builtin; refine wpList_row_append rfl (.tmp 101) (.tmp 109) rfl elL encL_enc (hrow3.keeps ((Keeps.refl Nil w3).alloc _) (fun _ _ h => h)) rfl w3.heap.size 1 rfl (pn, y) hbx (by omega) (by omega) ?_; intro v5 w5 hr5 hk5 hv5))
                obtain ⟨q1, q2⟩ := own_step hnew (hkr3.alloc _) hk5 hv5
                go_roundw
                case rel => exact ⟨k + 1, (i0 + 1), by omega, by go_num, rfl, KeepRel.next hlt HE.out hr5 (by omega) (by omega) (by simp; omega) q1 q2⟩
                case measure => simp [intOf]; omega
            · have b2 : (z % 2 == 1) = false := by rw [beq_eq_false_iff_ne]; exact hp
              by_cases hv0 : x = 0
              · have b3 : (x != 0) = false := by rw [bne_eq_false_iff_eq]; exact hv0
                have he : linkKeep r.kept r.names L (r.keepL L k) r.all[k] = ((i0 + 1), out) := by
                  rw [Hlk.out]; simp only [linkKeep, hxx, hyy, hxy, ne_eq, not_true_eq_false, not_false_eq_true, false_and, true_and, and_true, and_false, and_self, if_true, if_false]; simp only [Hz.out, hp, hv0, ne_eq, not_true_eq_false, not_false_eq_true, false_and, true_and, and_true, and_false, and_self, if_true, if_false]
                have HE := Lib.hid he
                clear he 
                go_wp2_with (go_at_call 53; refine (ref_mix _ _ _).mono ?_; rintro e w4 ⟨rfl, rfl⟩; rw [Hz.out])
                go_roundw
                case rel => exact ⟨k + 1, (i0 + 1), by omega, by go_num, rfl, KeepRel.next hlt HE.out hrow3 (by omega) (by omega) (by omega) hnew hkr3⟩
                case measure => simp [intOf]; omega
              · have b3 : (x != 0) = true := by rw [bne_iff_ne]; exact hv0
                have he : linkKeep r.kept r.names L (r.keepL L k) r.all[k] = ((i0 + 1), out ++ [(pn, x)]) := by
                  rw [Hlk.out]; simp only [linkKeep, hxx, hyy, hxy, ne_eq, not_true_eq_false, not_false_eq_true, false_and, true_and, and_true, and_false, and_self, if_true, if_false]; simp only [Hz.out, hp, hv0, ne_eq, not_true_eq_false, not_false_eq_true, false_and, true_and, and_true, and_false, and_self, if_true, if_false]
                have HE := Lib.hid he
                clear he 
                have hbx : Blk (w3.alloc (.cells #[.string pn, .int .i64 x] 37)) w3.heap.size 37 (encL (pn, x)).toArray := Blk.new w3 _ _
                go_wp2_with (first | (go_at_call 53; refine (ref_mix _ _ _).mono ?_; rintro e w4 ⟨rfl, rfl⟩; rw [Hz.out]) | (at_builtin; refine wpList_row_append rfl (.tmp 101) (.tmp 109) rfl elL encL_enc (hrow3.keeps ((Keeps.refl Nil w3).alloc _) (fun _ _ h => h)) rfl w3.heap.size 1 rfl (pn, x) hbx (by omega) (by omega) ?_; intro v5 w5 hr5 hk5 hv5))
                obtain ⟨q1, q2⟩ := own_step hnew (hkr3.alloc _) hk5 hv5
                go_roundw
                case rel => exact ⟨k + 1, (i0 + 1), by omega, by go_num, rfl, KeepRel.next hlt HE.out hr5 (by omega) (by omega) (by simp; omega) q1 q2⟩
                case measure => simp [intOf]; omega
        · have hke : k = r.all.length := by omega
          subst hke
          have hrn : RowOf wr 37 2 encL _ (r.left L).2 := hR.row
          have hnum : (r.left L).1 = kk := hR.num
          have hlen : (r.left L).2.length ≤ r.all.length := hR.len
          have hnewN := hR.new
          have hk02 : Keeps Nil w wr := hkr.same hkr2
          have hlo := hR.lo
          have hhi := hR.hi
          obtain ⟨w2, hw2⟩ : ∃ w2, w2 = wr := ⟨_, rfl⟩
          subst hw2
          obtain ⟨A3, cap3, hu3, hcap3, hA3⟩ := hrn.form encL_enc
          subst hu3
          have HA3 := Lib.hid hA3
          have hbl2 : B < w2.heap.size := Nat.lt_of_lt_of_le hbl hk02.size
          have hrF2 := hD.files.keeps hk02 (fun _ _ h => h)
          have c02 := (hk02.cell (p := ⟨B, 0, none⟩) hbl (fun h => h)).trans c0
          have hfl := hD.ok.fl
          clear hA3 hR HA2 d1 d2 d1' d2' hlt
          go_wp2
          go_loopw [7, 12, 13] (fun x u i wr => ∃ (k : Nat) (kk : Int), k ≤ (r.left L).2.length ∧ i = .int .i64 k ∧ x = .int .u64 kk ∧ FileRel w2 r L k kk u wr) (fun _ _ i _ => (r.left L).2.length - (intOf i).toNat)
          case atStart => exact ⟨0, kk, Nat.zero_le _, rfl, rfl, ⟨RowOf.nil _ _ _ _, hnum, hlo, by omega, Nat.le_refl _, (fun g h => by cases h), Keeps.refl _ _⟩⟩
          case round =>
            obtain ⟨k, kk, hk, rfl, rfl, hR⟩ := hrel
            have hkr3 := hR.keep
            by_cases hlt : k < (r.left L).2.length
            · obtain ⟨g, rfl, hgo, hgl, _, hcl⟩ := HA3.out k hlt
              have h1 := (hkr3.cell (p := ⟨g, k * 2 + 1, none⟩) hgl (fun h => h)).trans (hcl 1 (.int .i64 (r.left L).2[k].2) rfl).1
              clear hcl
              have hlt' : (k : Int) < ((r.left L).2.length : Int) := by omega
              have hlo := hR.lo
              have hhi := hR.hi
              have hrow := hR.row
              have hlen3 := hR.len
              have hnew := hR.new
              have hpv := hv _ (List.getElem_mem hlt)
              generalize hpp : (r.left L).2[k] = p at h1 hpv
              have Hp := Lib.hid hpp
              generalize hss : r.keepF L k = s at hrow hlen3
              have Hs := Lib.hid hss
              have hsn : s.1 = kk := by rw [← hss]; exact hR.num
              obtain ⟨i0, out⟩ := s
              simp only at hsn hrow hlen3
              subst hsn
              obtain ⟨pn, pv⟩ := p
              simp only at h1 hpv
              clear hpp hss hR
              have hfk : fileKeep r.files L (r.keepF L k) (r.left L).2[k] = fileKeep r.files L (i0, out) (pn, pv) := by rw [Hs.out, Hp.out]
              have Hfk := Lib.hid hfk
              clear hfk
              by_cases hpl : 0 ≤ placeL out pv 0
              · have he : fileKeep r.files L (r.keepF L k) (r.left L).2[k] = (i0, out) := by
                  rw [Hfk.out]; unfold fileKeep; rw [if_pos hpl]
                have HE := Lib.hid he
                clear he
                go_wp2_with (go_at_call 54; refine (ref_place hrow (by omega) _).mono ?_; rintro e w4 ⟨rfl, rfl⟩)
                go_roundw
                case rel => exact ⟨k + 1, i0, by omega, by go_num, rfl, FileRel.next hlt HE.out hrow (by omega) (by omega) (by omega) hnew hkr3⟩
                case measure => simp [intOf]; omega
              · have Hpl := Lib.hid hpl
                have hq1 := placeL_lt r.files pv 0 hpv
                obtain ⟨q, hq⟩ : ∃ q : Nat, placeL r.files pv 0 = q := ⟨(placeL r.files pv 0).toNat, by omega⟩
                rw [hq] at hq1
                have hql : q < r.files.length := by omega
                have Hq := Lib.hid hq
                have hrF3 := hrF2.keeps hkr3 (fun _ _ h => h)
                have c03 := (hkr3.cell (p := ⟨B, 0, none⟩) hbl2 (fun h => h)).trans c02
                obtain ⟨AF, capF, hvF, hcapF, hAF⟩ := hrF3.form encF_enc
                obtain ⟨gF, hgF, hgFo, hgFl, hf0, hf⟩ := hAF q hql
                subst hgF
                subst hvF
                have f0 := (hf0 (.int .i64 r.files[q].1) rfl).1
                have f1 := (hf 1 (.string r.files[q].2.1) rfl).1
                have f2 := (hf 2 (.int .i64 r.files[q].2.2) rfl).1
                have hsq := hs _ (List.getElem_mem hql)
                generalize hff : r.files[q] = f at f0 f1 f2 hsq
                have Hf := Lib.hid hff
                obtain ⟨fn, dat, sure⟩ := f
                simp only at f0 f1 f2 hsq
                clear hq hff hf hf0 hAF hpv
                have hq0 : (0 : Int) ≤ (q : Int) := by omega
                have hq1' : (q : Int) < (r.files.length : Int) := by omega
                have hfl' : r.files.length ≤ 4294967296 := by omega
                go_wp2_with (go_at_call 54; refine (ref_place hrow (by omega) _).mono ?_; rintro e w4 ⟨rfl, rfl⟩)
                have hFa : RowOf wr.drew 76 3 encF (.slice (some ⟨gF, 0, none⟩) r.files.length capF) r.files := hrF3
                have hFb := hrF3.keeps (((Keeps.refl Nil wr).drew).alloc (.cells #[.int .i64 0, .string ⟨#[]⟩, .int .i64 0] 76)) (fun _ _ h => h)
                go_region_held3 (fun w' => w'.cell? ⟨B, 0, none⟩ = some (.slice (some ⟨gF, 0, none⟩) r.files.length capF) ∧ w'.cell? ⟨g, k * 2 + 1, none⟩ = some (.int .i64 pv) ∧ w'.cell? ⟨gF, q * 3, none⟩ = some (.int .i64 fn) ∧ w'.cell? ⟨gF, q * 3 + 1, none⟩ = some (.string dat) ∧ w'.cell? ⟨gF, q * 3 + 2, none⟩ = some (.int .i64 sure))
                  (first | go_keep)
                  ((go_at_call 54; refine (ref_place (by first | exact hFa | exact hFb) hfl' _).mono ?_; rintro e w4 ⟨rfl, rfl⟩; rw [Hq.out]))
                all_goals
                  have hW : Keeps Nil wr (wr.alloc (.cells #[.int .i64 fn, .string dat, .int .i64 sure] 76)).drew := ((Keeps.refl Nil wr).alloc _).drew
                  have hbx : Blk (wr.alloc (.cells #[.int .i64 fn, .string dat, .int .i64 sure] 76)).drew wr.heap.size 76 #[.int .i64 fn, .string dat, .int .i64 sure] := (Blk.new wr _ _).drew
                  have hwz : w2.heap.size ≤ wr.heap.size := hkr3.size
                  generalize (wr.alloc (.cells #[.int .i64 fn, .string dat, .int .i64 sure] 76)).drew = W at *
                  generalize hgb0 : wr.heap.size = gb at *
                  have Hgb := Lib.hid hgb0
                  clear hgb0
                  have x0 : W.cell? ⟨gb, 0, none⟩ = some (.int .i64 fn) := hbx.cell 0
                  have x1 : W.cell? ⟨gb, 1, none⟩ = some (.string dat) := hbx.cell 1
                  have x2 : W.cell? ⟨gb, 2, none⟩ = some (.int .i64 sure) := hbx.cell 2
                  have xf1 := hbx.frozen 1
                  have xf2 := hbx.frozen 2
                  clear hFa hFb c03 f0 f1 f2 h1 hpl
                  have kS : ∀ (V : World) (j : Nat) (u : Value), Keeps Nil wr V → Keeps Nil wr (V.setCell ⟨gb, j, none⟩ u) := fun V j u hV => hV.trans ((Keeps.refl (One gb) V).setCell (p := ⟨gb, j, none⟩) (.inl rfl) u) (fun b hb hl => by
                    have hb : b = gb := hb
                    have := Hgb.out
                    omega)
                  by_cases hmo : (dat.size : Int) - sure > 0
                  · have ew : IntKind.u64.wrap (i0 + 1) = i0 + 1 := IntWalk.u64_in _ (by omega)
                    obtain ⟨z0, z1⟩ := mixI_range (IntKind.u64.wrap L) (i0 + 1)
                    generalize hzz : mixI (IntKind.u64.wrap L) (i0 + 1) = z at z0 z1
                    have Hz := Lib.hid hzz
                    clear hzz
                    have hr0 : 0 ≤ z % ((dat.size : Int) - sure + 1) := Int.emod_nonneg _ (by omega)
                    have hr1 : z % ((dat.size : Int) - sure + 1) < (dat.size : Int) - sure + 1 := Int.emod_lt_of_pos _ (by omega)
                    have hsz : ((dat.extract 0 (sure + z % ((dat.size : Int) - sure + 1)).toNat).size : Int) = max (sure + z % ((dat.size : Int) - sure + 1)) 0 := by
                      rw [ByteArray.size_extract]; omega
                    have he : fileKeep r.files L (r.keepF L k) (r.left L).2[k] = (i0 + 1, out ++ [(fn, dat.extract 0 (sure + z % ((dat.size : Int) - sure + 1)).toNat, ((dat.extract 0 (sure + z % ((dat.size : Int) - sure + 1)).toNat).size : Int))]) := by
                      rw [Hfk.out]
                      simp only [fileKeep, if_neg (show ¬ 0 ≤ placeL out pv 0 by have := Hpl.out; omega), Hq.out, Int.toNat_natCast, List.getElem?_eq_getElem hql, Hf.out, Option.getD_some, if_pos hmo, Hz.out]
                    have HE := Lib.hid he
                    clear he hsz
                    go_wp2_with fail
                    have e1 : IntKind.i64.wrap ((dat.size : Int) - sure + 1) = (dat.size : Int) - sure + 1 := IntWalk.i64_in _ (by omega)
                    have e2 : IntKind.u64.wrap ((dat.size : Int) - sure + 1) = (dat.size : Int) - sure + 1 := IntWalk.u64_in _ (by omega)
                    have e3 : (((dat.size : Int) - sure + 1) == 0) = false := by rw [beq_eq_false_iff_ne]; omega
                    have e4 : IntKind.i64.wrap (z % ((dat.size : Int) - sure + 1)) = z % ((dat.size : Int) - sure + 1) := IntWalk.i64_in _ (by omega)
                    have e5 : IntKind.i64.wrap (sure + z % ((dat.size : Int) - sure + 1)) = sure + z % ((dat.size : Int) - sure + 1) := IntWalk.i64_in _ (by omega)
                    have e6 : 0 ≤ sure + z % ((dat.size : Int) - sure + 1) := by omega
                    have e7 : sure + z % ((dat.size : Int) - sure + 1) ≤ (dat.size : Int) := by omega
                    have e3' : ¬ ((dat.size : Int) - sure + 1 = 0) := by omega
                    have ee : IntKind.i64.wrap (sure + IntKind.i64.wrap (z.tmod ((dat.size : Int) - sure + 1))) = sure + z % ((dat.size : Int) - sure + 1) := by rw [Int.tmod_eq_emod_of_nonneg z0, e4, e5]
                    go_still_tail 16, (by kernel_rfl)
                    still_call ((ref_mix _ _ _).mono fun _ _ ⟨he, hw⟩ => ⟨by rw [he, Hz.out], hw.symm⟩)
                    repeat still_step
                    refine wpStill_nil ?_
                    clear e1 e2 e3 e3' e4 e5 ee
                    clear hr0 hr1 e6 e7
                    generalize dat.extract 0 (sure + z % ((dat.size : Int) - sure + 1)).toNat = dd at *
                    have k4 : Keeps Nil wr (((W.setCell ⟨gb, 1, none⟩ (.string dd)).setCell ⟨gb, 2, none⟩ (.int .i64 (dd.size : Int))).alloc (.cells #[.int .i64 fn, .string dd, .int .i64 (dd.size : Int)] 76)).drew := ((kS _ 2 _ (kS _ 1 _ hW)).alloc _).drew
                    have b4 : Blk (((W.setCell ⟨gb, 1, none⟩ (.string dd)).setCell ⟨gb, 2, none⟩ (.int .i64 (dd.size : Int))).alloc (.cells #[.int .i64 fn, .string dd, .int .i64 (dd.size : Int)] 76)).drew W.heap.size 76 (encF (fn, dd, (dd.size : Int))).toArray := by
                      have h := (Blk.new ((W.setCell ⟨gb, 1, none⟩ (.string dd)).setCell ⟨gb, 2, none⟩ (.int .i64 (dd.size : Int))) 76 (encF (fn, dd, (dd.size : Int))).toArray).drew
                      rw [World.size_setCell, World.size_setCell] at h
                      exact h
                    have hrow4 := hrow.keeps k4 (fun _ _ h => h)
                    go_wp2_with (at_builtin; refine wpList_row_append rfl (.tmp 171) (.tmp 173) rfl elF encF_enc hrow4 rfl W.heap.size 1 rfl (fn, dd, (dd.size : Int)) b4 (by omega) (by omega) ?_; intro v6 w6 hr6 hk6 hv6)
                    obtain ⟨q1, q2⟩ := own_step hnew (hkr3.same k4) hk6 hv6
                    go_roundw
                    case rel => exact ⟨k + 1, i0 + 1, by omega, by go_num, rfl, FileRel.next hlt HE.out hr6 (by omega) (by omega) (by simp; omega) q1 q2⟩
                    case measure => simp [intOf]; omega
                  · have hes : sure = (dat.size : Int) := by omega
                    have he : fileKeep r.files L (r.keepF L k) (r.left L).2[k] = (i0, out ++ [(fn, dat, (dat.size : Int))]) := by
                      rw [Hfk.out]
                      simp only [fileKeep, if_neg (show ¬ 0 ≤ placeL out pv 0 by have := Hpl.out; omega), Hq.out, Int.toNat_natCast, List.getElem?_eq_getElem hql, Hf.out, Option.getD_some, if_neg hmo]
                    have HE := Lib.hid he
                    have hmo' : ¬ (0 : Int) < (dat.size : Int) - sure := by omega
                    clear he hes
                    have k4 : Keeps Nil wr ((W.setCell ⟨gb, 2, none⟩ (.int .i64 (dat.size : Int))).alloc (.cells #[.int .i64 fn, .string dat, .int .i64 (dat.size : Int)] 76)) := (kS _ 2 _ hW).alloc _
                    have b4 : Blk ((W.setCell ⟨gb, 2, none⟩ (.int .i64 (dat.size : Int))).alloc (.cells #[.int .i64 fn, .string dat, .int .i64 (dat.size : Int)] 76)) W.heap.size 76 (encF (fn, dat, (dat.size : Int))).toArray := by
                      have h := Blk.new (W.setCell ⟨gb, 2, none⟩ (.int .i64 (dat.size : Int))) 76 (encF (fn, dat, (dat.size : Int))).toArray
                      rw [World.size_setCell] at h
                      exact h
                    have hrow4 := hrow.keeps k4 (fun _ _ h => h)
                    go_wp2_with (at_builtin; refine wpList_row_append rfl (.tmp 171) (.tmp 173) rfl elF encF_enc hrow4 rfl W.heap.size 1 rfl (fn, dat, (dat.size : Int)) b4 (by omega) (by omega) ?_; intro v6 w6 hr6 hk6 hv6)
                    obtain ⟨q1, q2⟩ := own_step hnew (hkr3.same k4) hk6 hv6
                    go_roundw
                    case rel => exact ⟨k + 1, i0, by omega, by go_num, rfl, FileRel.next hlt HE.out hr6 (by omega) (by omega) (by simp; omega) q1 q2⟩
                    case measure => simp [intOf]; omega
            · have hke : k = (r.left L).2.length := by omega
              subst hke
              have hrowF := hR.row
              have hlenF := hR.len
              have hnewF := hR.new
              obtain ⟨AF, cF, huF, _, _⟩ := hrowF.form encF_enc
              subst huF
              have hk03 : Keeps Nil w wr := hk02.same hkr3
              have hD3 := hD.keeps hk03 (fun _ _ h => h)
              have hrN3 := hrn.keeps hkr3 (fun _ _ h => h)
              have hok := hD.ok
              have hz1 := hkr.size
              have hz2 := hk02.size
              have hz3 := hkr3.size
              clear HA3 c02 hrF2 hlt
              obtain ⟨w3, hw3⟩ : ∃ w3, w3 = wr := ⟨_, rfl⟩
              subst hw3
              have fB0 := hD3.blk.frozen 0
              have fB1 := hD3.blk.frozen 1
              have cB0 := hD3.c0
              have cB1 := hD3.c1
              obtain ⟨WX, hWX⟩ : ∃ W, W = (w3.setCell ⟨B, 0, none⟩ (.slice AF (r.keepF L (r.left L).2.length).2.length cF)).setCell ⟨B, 1, none⟩ (.slice A3 (r.left L).2.length cap3) := ⟨_, rfl⟩
              have kB1 : Keeps (One B) w3 WX := by
                rw [hWX]; exact ((Keeps.refl (One B) w3).setCell (p := ⟨B, 0, none⟩) (.inl rfl) _).setCell (p := ⟨B, 1, none⟩) (.inl rfl) _
              have bB1 : Blk WX B 35 (((r.cells vF (.slice A r.names.length cap) vK).setIfInBounds 0 (.slice AF (r.keepF L (r.left L).2.length).2.length cF)).setIfInBounds 1 (.slice A3 (r.left L).2.length cap3)) := by
                rw [hWX]; exact (hD3.blk.set_ 0 _).set_ 1 _
              have rF1 := hrowF.keeps kB1 (not_one (hrowF.ne_blk hD3.blk (by decide)))
              have rN1 := hrN3.keeps kB1 (not_one (hrN3.ne_blk hD3.blk (by decide)))
              have hsz : WX.heap.size = w3.heap.size := by rw [hWX, World.size_setCell, World.size_setCell]
              have hE : RowOf (WX.alloc (.cells #[] 37)) 37 2 encL (.slice (some ⟨w3.heap.size, 0, none⟩) 0 0) [] := by
                have h := RowOf.empty WX 37 2 encL
                rw [hsz] at h
                exact h
              have rN2 := rN1.keeps ((Keeps.refl Nil WX).alloc (.cells #[] 37)) (fun _ _ h => h)
              have step : ∀ (v5 : Value) (w5 : World), RowOf w5 37 2 encL v5 ([] ++ (r.left L).2) → Keeps (OwnB (.slice (some ⟨w3.heap.size, 0, none⟩) 0 0)) (WX.alloc (.cells #[] 37)) w5 →
                  (v5.ownBlock = (Value.slice (some ⟨w3.heap.size, 0, none⟩) 0 0).ownBlock ∨ v5.ownBlock = some (WX.alloc (.cells #[] 37)).heap.size) →
                  (w5.cell? ⟨B, 2, none⟩ = some vK ∧ w5.frozen? ⟨B, 2, none⟩ = false ∧ w5.cell? ⟨B, 7, none⟩ = some (.bool r.down) ∧ w5.frozen? ⟨B, 7, none⟩ = false ∧ w5.cell? ⟨B, 5, none⟩ = some (.int .i64 r.armed) ∧ w5.frozen? ⟨B, 5, none⟩ = false) ∧
                  Hid (RefAt (((w5.setCell ⟨B, 2, none⟩ v5).setCell ⟨B, 7, none⟩ (.bool false)).setCell ⟨B, 5, none⟩ (.int .i64 (-1))) n B (.slice AF (r.keepF L (r.left L).2.length).2.length cF) (.slice A3 (r.left L).2.length cap3) v5 (r.restart L) ∧
                    Keeps (One B) w (((w5.setCell ⟨B, 2, none⟩ v5).setCell ⟨B, 7, none⟩ (.bool false)).setCell ⟨B, 5, none⟩ (.int .i64 (-1))) ∧
                    (∀ b, fpR B (.slice AF (r.keepF L (r.left L).2.length).2.length cF) (.slice A3 (r.left L).2.length cap3) v5 b → b = B ∨ w.heap.size ≤ b)) := by
                intro v5 w5 hr5 hk5 hv5
                rw [List.nil_append] at hr5
                have hk6 : Keeps Nil WX w5 := new_keeps (l := 0) (c := 0) (Keeps.refl Nil WX) (by rw [hsz]; exact hk5)
                have bB2 := bB1.keeps hk6 (fun h => h)
                refine ⟨⟨bB2.cell 2, bB2.frozen 2, bB2.cell 7, bB2.frozen 7, bB2.cell 5, bB2.frozen 5⟩, Lib.hid ?_⟩
                have rF2 := rF1.keeps hk6 (fun _ _ h => h)
                have rN3 := rN1.keeps hk6 (fun _ _ h => h)
                have kE : Keeps (One B) w5 (((w5.setCell ⟨B, 2, none⟩ v5).setCell ⟨B, 7, none⟩ (.bool false)).setCell ⟨B, 5, none⟩ (.int .i64 (-1))) := (((Keeps.refl (One B) w5).setCell (p := ⟨B, 2, none⟩) (.inl rfl) _).setCell (p := ⟨B, 7, none⟩) (.inl rfl) _).setCell (p := ⟨B, 5, none⟩) (.inl rfl) _
                have nv : ¬ OwnB v5 B := hr5.ne_blk bB2 (by decide)
                refine ⟨⟨((bB2.set_ 2 v5).set_ 7 _).set_ 5 _, rF2.keeps kE (not_one (rF2.ne_blk bB2 (by decide))), rN3.keeps kE (not_one (rN3.ne_blk bB2 (by decide))), hr5.keeps kE (not_one nv), ⟨hok.l0, hok.l1, hok.s0, hok.s1, by simp [RD.restart], by simp [RD.restart], hok.n1, ?_, ?_, ?_⟩⟩, ?_, ?_⟩
                · show (r.keepF L (r.left L).2.length).2.length ≤ n
                  omega
                · show (r.left L).2.length ≤ n
                  omega
                · show (r.left L).2.length ≤ n
                  omega
                · exact (((Keeps.refl (One B) w).trans hk03 (fun _ h _ => h.elim)).trans kB1 (fun _ h _ => h)).trans (hk6.mono (T := One B) (fun _ _ h => h.elim)) (fun _ h _ => h) |>.trans kE (fun _ h _ => h)
                · rintro b (hb | hb | hb | hb)
                  · exact .inl hb
                  · have := hnewF b hb
                    exact .inr (by omega)
                  · have := hnewN b hb
                    exact .inr (by omega)
                  · unfold OwnB at hb
                    rcases hv5 with e | e <;> rw [e] at hb <;> injection hb with hb
                    · have hb : w3.heap.size = b := hb
                      exact .inr (by omega)
                    · rw [World.size_alloc, hsz] at hb
                      exact .inr (by omega)
              have hll1 : (0 + (r.left L).2.length) * 24 ≤ 140737488355328 := by omega
              have hll2 : 0 + (r.left L).2.length ≤ 4294967296 := by omega
              have hB0 := (hD3.blk.frozen 0)
              have hB1 := (hD3.blk.frozen 1)
              have hC0 := hD3.c0
              have hC1 := hD3.c1
              clear hD3 bB1 kB1 rF1 rN1 hD hrn hrN hrK hrN1 hrK1 hrN3 hrowF hok
              subst hWX
              go_wp2_with (at_builtin; refine wpList_row_extend rfl (.tmp 184) (.tmp 185) rfl elL encL_enc hE rfl rN2 rfl hll1 hll2 ?_; intro v5 w5 hr5 hk5 hv5 hf5; obtain ⟨A5, c5, rfl⟩ := hf5; obtain ⟨⟨x2, xf2, x7, xf7, x5, xf5⟩, HF⟩ := step _ _ hr5 hk5 hv5)
              go_ret
              have hf := HF.out
              rw [List.length_nil, Nat.zero_add] at hf
              exact ⟨_, _, _, rfl, hf⟩
end Go.Proofs.Ytmjlbpgngahgmaa
