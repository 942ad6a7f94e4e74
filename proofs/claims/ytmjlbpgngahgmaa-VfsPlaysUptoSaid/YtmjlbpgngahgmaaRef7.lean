/- The document's disk: Read, List. No conditions but sizes. -/
import Derived.Test.YtmjlbpgngahgmaaRef6
import Derived.Deep.QuietTactic
import Derived.BigQuiet
namespace Go.Proofs.Ytmjlbpgngahgmaa
open Go.RowKit

def RD.read (r : RD) (x : ByteArray) : ByteArray × Int :=
  if firstE r.down (nameB x) ≠ 0 then (⟨#[]⟩, firstE r.down (nameB x)) else if findL r.names x = 0 then (⟨#[]⟩, 11) else
    (((r.files[(placeL r.files (findL r.names x) 0).toNat]?).map (fun p => p.2.1)).getD ⟨#[]⟩, 0)

theorem quiet_same {P : Program} {f : FuncId} {args : Array Value} {w : World} {n : Nat} {u v : Value}
    (h : Calls P f args (w.drewN n) fun e w' => e = .returned u ∧ w.drewN n = w') (hu : u = v) : Calls P f args (w.drewN n) fun e w'' => e = .returned v ∧ ∃ m, w'' = w.drewN m :=
  h.mono fun _ _ ⟨he, hm⟩ => ⟨by rw [he, hu], n, hm.symm⟩

set_option maxRecDepth 100000 in
set_option maxHeartbeats 4000000 in
theorem ref_read {w : World} {n B : Nat} {vF vN vK : Value} {r : RD} (hD : RefAt w n B vF vN vK r) (x : ByteArray) (hx : x.size ≤ 9223372036854775807)
    (hv : findL r.names x ≠ 0 → 0 ≤ placeL r.files (findL r.names x) 0) :
    Calls Try.prog 31 #[.pointer (some ⟨B, 0, none⟩), .string x] w fun e w' => e = .returned (.tuple #[.string (r.read x).1, .int .i64 (r.read x).2]) ∧ Keeps Nil w w' := by
  have hn1 := hD.ok.n1
  have hfl := hD.ok.fl
  have hnl := hD.ok.nl
  by_cases h1 : firstE r.down (nameB x) = 0
  · have b1 : (firstE r.down (nameB x) != 0) = false := by rw [h1]; rfl
    have c1 := hD.c1
    by_cases hm : findL r.names x = 0
    · have bm : (findL r.names x == 0) = true := by rw [hm]; rfl
      have hfin : r.read x = (⟨#[]⟩, 11) := by
        simp only [RD.read, h1, hm, ne_eq, not_true_eq_false, if_false, if_true]
      have Hfin := Lib.hid hfin
      clear hfin h1 hm hv
      go_enter Try.func31, Try.ntmps31
      go_wp2_with (first
        | (go_at_call 34; refine (ref_name _ _ hx).mono ?_; rintro e w1 ⟨rfl, rfl⟩)
        | (go_at_call 43; refine (ref_first hD _).mono ?_; rintro e w1 ⟨rfl, rfl⟩)
        | (go_at_call 48; refine (ref_find hD.names (by omega) x).mono ?_; rintro e w1 ⟨rfl, rfl⟩))
      go_ret2
      rw [Hfin.out]
      exact ⟨rfl, Keeps.refl _ _⟩
    · have bm : (findL r.names x == 0) = false := by rw [beq_eq_false_iff_ne]; exact hm
      have hp0 := hv hm
      have hp1 := placeL_lt r.files (findL r.names x) 0 hp0
      have hk' : ∃ k : Nat, placeL r.files (findL r.names x) 0 = k := ⟨(placeL r.files (findL r.names x) 0).toNat, by omega⟩
      obtain ⟨k, hk⟩ := hk'
      rw [hk] at hp1
      have hkl : k < r.files.length := by omega
      have hfin : r.read x = (r.files[k].2.1, 0) := by
        simp only [RD.read, h1, hm, ne_eq, not_true_eq_false, if_false]
        rw [hk, Int.toNat_natCast, List.getElem?_eq_getElem hkl]
        rfl
      have Hfin := Lib.hid hfin
      have c0 := hD.c0
      have Hk := Lib.hid hk
      have hrF := hD.files
      obtain ⟨A, cap, rfl, hcap, hA⟩ := hD.files.form encF_enc
      obtain ⟨g, rfl, hgo, hgl, hc0, hc⟩ := hA k hkl
      obtain ⟨q1, q1f⟩ := hc 1 (.string r.files[k].2.1) rfl
      have hk0 : (0 : Int) ≤ (k : Int) := by omega
      have hk1 : (k : Int) < (r.files.length : Int) := by omega
      have hll : r.files.length ≤ 4294967296 := by omega
      clear hc hc0 hA hfin h1 hm hv hk hp0 hp1
      go_enter Try.func31, Try.ntmps31
      go_wp2_with (first
        | (go_at_call 34; refine (ref_name _ _ hx).mono ?_; rintro e w1 ⟨rfl, rfl⟩)
        | (go_at_call 43; refine (ref_first hD _).mono ?_; rintro e w1 ⟨rfl, rfl⟩)
        | (go_at_call 48; refine (ref_find hD.names (by omega) x).mono ?_; rintro e w1 ⟨rfl, rfl⟩))
      go_quiet ((go_at_call 54; exact quiet_same (ref_place (hrF.keeps ((Keeps.refl Nil _).drewN _) (fun _ _ h => h)) hll _) (by rw [Hk.out])))
      go_wp2
      go_ret2
      rw [Hfin.out]
      exact ⟨rfl, (Keeps.refl Nil w).drewN _⟩
  · have b1 : (firstE r.down (nameB x) != 0) = true := by rw [bne_iff_ne]; exact h1
    have hfin : r.read x = (⟨#[]⟩, firstE r.down (nameB x)) := by
      simp only [RD.read, h1, ne_eq, not_false_eq_true, if_true]
    have Hfin := Lib.hid hfin
    clear hfin h1 hv
    go_enter Try.func31, Try.ntmps31
    go_wp2_with (first
      | (go_at_call 34; refine (ref_name _ _ hx).mono ?_; rintro e w1 ⟨rfl, rfl⟩)
      | (go_at_call 43; refine (ref_first hD _).mono ?_; rintro e w1 ⟨rfl, rfl⟩))
    go_ret2
    rw [Hfin.out]
    exact ⟨rfl, Keeps.refl _ _⟩

def encS (p : ByteArray) : List Value := [.string p]
theorem encS_enc : Enc 1 encS := ⟨fun _ => rfl, fun x u hu => by simp [encS] at hu; subst hu; rfl⟩
theorem elS : ElemT Try.prog 50 9 1 16 :=
  ⟨Try.underlying50, by
    have h : (Try.prog.info? 9).map (fun i => (i.zero, i.size, i.bytes)) = some (some (.string ⟨#[]⟩), 1, 16) := by kernel_rfl
    obtain ⟨i, hi, h1, h2, h3⟩ := info_parts h
    exact ⟨i, _, hi, h1, h2, h3, rfl⟩, by omega⟩
theorem flat_texts : ∀ l : List ByteArray, l.flatMap encS = l.map Value.string
  | [] => rfl
  | a :: r => by rw [List.flatMap_cons, List.map_cons, flat_texts r]; rfl
theorem RowOf.texts {w : World} {base : Nat} {v : Value} {l : List ByteArray} (h : RowOf w 9 1 encS v l) (hb : ∀ g, OwnB v g → base ≤ g) : OwnTexts w base v l := by
  have e : l.flatMap encS = l.map Value.string := flat_texts l
  obtain ⟨h1, h2⟩ := h
  rw [e] at h1 h2
  refine ⟨h1, ?_⟩
  rcases h2 with h2 | ⟨g, cap, cur, rfl, _, h3⟩
  · exact .inl h2
  · exact .inr ⟨g, cap, cur, rfl, hb g rfl, h3⟩

def RD.list (r : RD) : List ByteArray := if r.down then [] else r.names.map (fun p => p.1)

structure ListRel (w : World) (l : List (ByteArray × Int)) (k : Nat) (v : Value) (wr : World) : Prop where
  row : RowOf wr 9 1 encS v ((l.take k).map (fun p => p.1))
  new : ∀ g, OwnB v g → w.heap.size ≤ g
  keep : Keeps Nil w wr

set_option maxRecDepth 100000 in
set_option maxHeartbeats 4000000 in
theorem ref_list {w : World} {n B : Nat} {vF vN vK : Value} {r : RD} (hD : RefAt w n B vF vN vK r) :
    Calls Try.prog 35 #[.pointer (some ⟨B, 0, none⟩)] w fun e w' => ∃ v : Value, e = .returned v ∧ OwnTexts w' w.heap.size v r.list ∧ Keeps Nil w w' := by
  have hn1 := hD.ok.n1
  have hnl := hD.ok.nl
  have hvf := hD.blk.lt
  have c1 := hD.c1
  have c7 := hD.c7
  obtain ⟨A, cap, rfl, hcap, hA⟩ := hD.names.form encL_enc
  have HA := Lib.hid hA
  clear hA
  cases hdn : r.down with
  | true =>
    rw [hdn] at c7
    have Hdn := Lib.hid hdn
    clear hdn
    by_cases hz : (0 : Int) < (r.names.length : Int)
    · go_enter Try.func35, Try.ntmps35
      go_wp2
      go_loopw [3, 4] (fun u i wr => i = .int .i64 0 ∧ u = .slice none 0 0 ∧ wr = w) (fun _ _ _ => 0)
      case atStart => exact ⟨rfl, rfl, rfl⟩
      case round =>
        obtain ⟨rfl, rfl, rfl⟩ := hrel
        go_wp2
        go_ret
        exact ⟨_, rfl, ⟨by simp [RD.list, Hdn.out], .inl ⟨rfl, by simp [RD.list, Hdn.out]⟩⟩, Keeps.refl _ _⟩
    · go_enter Try.func35, Try.ntmps35
      go_wp2
      go_loopw [3, 4] (fun u i wr => i = .int .i64 0 ∧ u = .slice none 0 0 ∧ wr = w) (fun _ _ _ => 0)
      case atStart => exact ⟨rfl, rfl, rfl⟩
      case round =>
        obtain ⟨rfl, rfl, rfl⟩ := hrel
        go_wp2
        go_ret
        exact ⟨_, rfl, ⟨by simp [RD.list, Hdn.out], .inl ⟨rfl, by simp [RD.list, Hdn.out]⟩⟩, Keeps.refl _ _⟩
  | false =>
    rw [hdn] at c7
    have Hdn := Lib.hid hdn
    clear hdn
    have hlst : r.list = r.names.map (fun p => p.1) := by simp [RD.list, Hdn.out]
    have Hl := Lib.hid hlst
    clear hlst
    go_enter Try.func35, Try.ntmps35
    go_wp2
    go_loopw [3, 4] (fun u i wr => ∃ k : Nat, k ≤ r.names.length ∧ i = .int .i64 k ∧ ListRel w r.names k u wr) (fun _ i _ => r.names.length - (intOf i).toNat)
    case atStart => exact ⟨0, Nat.zero_le _, rfl, ⟨RowOf.nil _ _ _ _, (fun g h => by cases h), Keeps.refl _ _⟩⟩
    case round =>
      obtain ⟨k, hk, rfl, hR⟩ := hrel
      have d1 := (hR.keep.cell (p := ⟨B, 1, none⟩) hvf (fun h => h)).trans c1
      have d7 := (hR.keep.cell (p := ⟨B, 7, none⟩) hvf (fun h => h)).trans c7
      by_cases hlt : k < r.names.length
      · obtain ⟨g, rfl, hgo, hgl, hcl0, hcl⟩ := HA.out k hlt
        have h0 := (hR.keep.cell (p := ⟨g, k * 2, none⟩) hgl (fun h => h)).trans (hcl0 (.string r.names[k].1) rfl).1
        have hlt' : (k : Int) < (r.names.length : Int) := by omega
        have hrow := hR.row
        have hlen : ((r.names.take k).map (fun p => p.1)).length = k := by rw [List.length_map, List.length_take]; omega
        have hs : (r.names.take (k + 1)).map (fun p => p.1) = (r.names.take k).map (fun p => p.1) ++ [r.names[k].1] := by
          rw [List.take_succ_eq_append_getElem hlt, List.map_append]; rfl
        have Hs := Lib.hid hs
        clear hcl hcl0 hs
        generalize r.names[k].1 = x at h0 Hs
        generalize (r.names.take k).map (fun p => p.1) = out at hrow hlen Hs
        have hbl : Blk (wr.alloc (.cells #[.string x] 9)) wr.heap.size 9 (encS x).toArray := Blk.new wr _ _
        go_wp2_with (at_builtin; refine wpList_row_append rfl (.tmp 21) (.tmp 30) rfl elS encS_enc (hrow.keeps ((Keeps.refl Nil wr).alloc _) (fun _ _ h => h)) rfl wr.heap.size 1 rfl x hbl (by omega) (by omega) ?_; intro v1 w1 hr1 hk1 hv1)
        obtain ⟨q1, q2⟩ := own_step hR.new (hR.keep.alloc _) hk1 hv1
        go_roundw
        case rel => exact ⟨k + 1, by omega, by go_num, ⟨by rw [Hs.out]; exact hr1, q1, q2⟩⟩
        case measure => simp [intOf]; omega
      · have hke : k = r.names.length := by omega
        subst hke
        go_wp2
        go_ret
        have hrow := hR.row
        rw [List.take_length] at hrow
        exact ⟨_, rfl, by rw [Hl.out]; exact hrow.texts hR.new, hR.keep⟩
end Go.Proofs.Ytmjlbpgngahgmaa
