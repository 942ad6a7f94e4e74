/- The document's disk: Name, find, place, Arm, Mix, link. No conditions. -/
import Derived.Test.YtmjlbpgngahgmaaRef1
import Derived.Test.YtmjlbpgngahgmaaVfs5
namespace Go.Proofs.Ytmjlbpgngahgmaa
open Go.RowKit

def quoB (x : Int) : Int := IntKind.u64.wrap (x.tdiv 1073741824)
def quoC (x : Int) : Int := IntKind.u64.wrap (x.tdiv 134217728)
def quoD (x : Int) : Int := IntKind.u64.wrap (x.tdiv 2147483648)
def mixRB (x : Int) : Int := IntKind.u64.wrap (bits BinOp.xor IntKind.u64 x (quoB x) * 13787848793156543929)
def mixRC (x : Int) : Int := IntKind.u64.wrap (bits BinOp.xor IntKind.u64 x (quoC x) * 10723151780598845931)
def mixRD (x : Int) : Int := bits BinOp.xor IntKind.u64 x (quoD x)
def mixR (a b : Int) : Int := mixRD (mixRC (mixRB (mixA a b)))

theorem quoB_eq (x : Int) (h : 0 ≤ x ∧ x < 18446744073709551616) : quoB x = x / 1073741824 := by
  unfold quoB; rw [Int.tdiv_eq_ediv_of_nonneg h.1, IntKind.wrap_u64]; omega
theorem quoC_eq (x : Int) (h : 0 ≤ x ∧ x < 18446744073709551616) : quoC x = x / 134217728 := by
  unfold quoC; rw [Int.tdiv_eq_ediv_of_nonneg h.1, IntKind.wrap_u64]; omega
theorem quoD_eq (x : Int) (h : 0 ≤ x ∧ x < 18446744073709551616) : quoD x = x / 2147483648 := by
  unfold quoD; rw [Int.tdiv_eq_ediv_of_nonneg h.1, IntKind.wrap_u64]; omega
theorem mixR_eq (a b : Int) : mixR a b = mixI a b := by
  have e1 : mixRB (mixA a b) = mixB (mixA a b) := by unfold mixRB mixB; rw [quoB_eq (mixA a b) (u64_range _)]
  have e2 : mixRC (mixB (mixA a b)) = mixC (mixB (mixA a b)) := by unfold mixRC mixC; rw [quoC_eq (mixB (mixA a b)) (u64_range _)]
  have e3 : mixRD (mixC (mixB (mixA a b))) = mixD (mixC (mixB (mixA a b))) := by unfold mixRD mixD; rw [quoD_eq (mixC (mixB (mixA a b))) (u64_range _)]
  unfold mixR mixI
  rw [e1, e2, e3]

set_option maxHeartbeats 1000000 in
theorem ref_mix (a b : Int) (w : World) :
    Calls Try.prog 53 #[.int .u64 a, .int .u64 b] w fun e w' => e = .returned (.int .u64 (mixI a b)) ∧ w = w' := by
  rw [← mixR_eq]
  go_enter Try.func53, Try.ntmps53
  go_wp2
  go_ret
  exact ⟨rfl, rfl⟩

set_option maxHeartbeats 1000000 in
theorem ref_name (s : ByteArray) (w : World) (hs : s.size ≤ 9223372036854775807) : Calls Try.prog 34 #[.string s] w fun e w' => e = .returned (.bool (nameB s)) ∧ w = w' := by
  by_cases h0 : s.size = 0
  · have h1 : ((s.size : Nat) : Int) < 1 := by omega
    have hx : nameB s = false := by simp [nameB, h0]
    have Hx := Lib.hid hx
    clear h0 hx
    go_enter Try.func34, Try.ntmps34
    go_wp2
    go_ret
    exact ⟨ret_bool Hx.out.symm, rfl⟩
  · have hpos : 0 < s.size := by omega
    have hpos' : ¬ ((s.size : Nat) : Int) < 1 := by omega
    clear h0
    by_cases h1 : 40 < s.size
    · have hx : nameB s = false := by simp [nameB]; intro; omega
      have Hx := Lib.hid hx
      clear hx
      have h1' : (40 : Int) < (s.size : Int) := by omega
      go_enter Try.func34, Try.ntmps34
      go_wp2
      go_ret
      exact ⟨ret_bool Hx.out.symm, rfl⟩
    · have h1' : (s.size : Int) ≤ 40 := by omega
      have hl : s.data.toList.length = s.size := Array.length_toList
      have Hl := Lib.hid hl
      clear hl
      go_enter Try.func34, Try.ntmps34
      go_wp2
      go_loop [3] (fun i => ∃ k : Nat, k ≤ s.size ∧ i = .int .i64 k ∧ Hid ((s.data.toList.take k).all okC = true)) (fun i => s.size - (intOf i).toNat)
      case atStart => exact ⟨0, Nat.zero_le _, rfl, Lib.hid rfl⟩
      case round =>
        obtain ⟨k, hk, rfl, Ha⟩ := hrel
        by_cases hlt : k < s.size
        · have hlt' : (k : Int) < (s.size : Int) := by omega
          have hk1 := all_take_succ s.data.toList k (by rw [Hl.out]; exact hlt) okC
          have hg : s.data.toList[k]'(by rw [Hl.out]; exact hlt) = s[k] := by simp [ByteArray.getElem_eq_getElem_data]
          rw [Ha.out, Bool.true_and, hg] at hk1
          have Hk1 := Lib.hid hk1
          clear hk1 hg
          by_cases hc : okI s[k].toNat
          · have Hc : Hid (okC s[k] = true) := Lib.hid (decide_eq_true hc)
            unfold okI at hc
            rcases hc with ⟨c1, c2⟩ | ⟨c1, c2⟩ | hc | hc
            · go_wp2
              go_round
              case rel => exact ⟨k + 1, by omega, by go_num, Lib.hid (Hk1.out.trans Hc.out)⟩
              case measure => simp [intOf]; omega
            · go_wp2
              go_round
              case rel => exact ⟨k + 1, by omega, by go_num, Lib.hid (Hk1.out.trans Hc.out)⟩
              case measure => simp [intOf]; omega
            · have d1 : ((s[k].toNat : Int) == 95) = true := by rw [beq_iff_eq]; exact hc
              have c0 : (95 : Int) ≤ (s[k].toNat : Int) := by omega
              have c1 : (s[k].toNat : Int) ≤ 95 := by omega
              clear hc
              go_wp2
              go_round
              case rel => exact ⟨k + 1, by omega, by go_num, Lib.hid (Hk1.out.trans Hc.out)⟩
              case measure => simp [intOf]; omega
            · have d1 : ((s[k].toNat : Int) == 95) = false := by rw [beq_eq_false_iff_ne]; omega
              have d2 : ((s[k].toNat : Int) == 46) = true := by rw [beq_iff_eq]; exact hc
              have c0 : (46 : Int) ≤ (s[k].toNat : Int) := by omega
              have c1 : (s[k].toNat : Int) ≤ 46 := by omega
              clear hc
              go_wp2
              go_round
              case rel => exact ⟨k + 1, by omega, by go_num, Lib.hid (Hk1.out.trans Hc.out)⟩
              case measure => simp [intOf]; omega
          · have Hc : Hid (okC s[k] = false) := Lib.hid (decide_eq_false hc)
            unfold okI at hc
            have hx : nameB s = false := by
              cases hn : nameB s with
              | false => rfl
              | true =>
                simp only [nameB, Bool.and_eq_true] at hn
                have := hn.2
                rw [← List.take_append_drop (k + 1) s.data.toList, List.all_append, Hk1.out, Hc.out] at this
                cases this
            have Hx := Lib.hid hx
            clear hx
            have d1 : ((s[k].toNat : Int) == 95) = false := by rw [beq_eq_false_iff_ne]; omega
            have d2 : ((s[k].toNat : Int) == 46) = false := by rw [beq_eq_false_iff_ne]; omega
            go_wp2
            all_goals first
              | (go_ret; exact ⟨ret_bool Hx.out.symm, rfl⟩)
              | (exfalso; omega)
              | (exfalso; (simp only [Bool.not_eq_false', decide_eq_true_eq] at *); omega)
        · have hke : k = s.size := by omega
          have hlt' : ¬ (k : Int) < (s.size : Int) := by omega
          have hx : nameB s = true := by
            have h2 := Ha.out
            rw [hke, ← Hl.out, List.take_length] at h2
            simp only [nameB, Bool.and_eq_true, decide_eq_true_eq]
            exact ⟨⟨hpos, by omega⟩, h2⟩
          have Hx := Lib.hid hx
          clear hx
          go_wp2
          go_ret
          exact ⟨ret_bool Hx.out.symm, rfl⟩

/-- A name's file; 0: there is none. -/
def findL (l : List (ByteArray × Int)) (x : ByteArray) : Int :=
  match l with
  | [] => 0
  | p :: r => if p.1 = x then p.2 else findL r x
theorem findL_drop (l : List (ByteArray × Int)) (x : ByteArray) (k : Nat) (h : k < l.length) : findL (l.drop k) x = if l[k].1 = x then l[k].2 else findL (l.drop (k + 1)) x := by
  rw [List.drop_eq_getElem_cons h]; rfl

theorem bytes_beq_true {a b : ByteArray} (h : a = b) : (a.toList == b.toList) = true := by rw [h]; exact beq_self_eq_true _
theorem bytes_beq_false {a b : ByteArray} (h : a ≠ b) : (a.toList == b.toList) = false := by
  rw [beq_eq_false_iff_ne]
  intro e
  rw [ByteArray.toList_eq, ByteArray.toList_eq] at e
  exact h (Go.WideShapes.bytes_inj e)

set_option maxHeartbeats 1000000 in
theorem ref_find {w : World} {v : Value} {l : List (ByteArray × Int)} (hr : RowOf w 37 2 encL v l) (hl : l.length ≤ 4294967296) (x : ByteArray) :
    Calls Try.prog 48 #[v, .string x] w fun e w' => e = .returned (.int .i64 (findL l x)) ∧ w = w' := by
  obtain ⟨A, c, rfl, _, hA⟩ := hr.form encL_enc
  have HA := Lib.hid hA
  clear hA
  go_enter Try.func48, Try.ntmps48
  go_wp2
  go_loop [5] (fun i => ∃ k : Nat, k ≤ l.length ∧ i = .int .i64 k ∧ Hid (findL l x = findL (l.drop k) x)) (fun i => l.length - (intOf i).toNat)
  case atStart => exact ⟨0, Nat.zero_le _, rfl, Lib.hid rfl⟩
  case round =>
    obtain ⟨k, hk, rfl, Hf⟩ := hrel
    by_cases hlt : k < l.length
    · obtain ⟨g, rfl, _, _, hcl0, hcl⟩ := HA.out k hlt
      have h0 := (hcl0 (.string l[k].1) rfl).1
      have h1 := (hcl 1 (.int .i64 l[k].2) rfl).1
      clear hcl hcl0
      have hlt' : (k : Int) < (l.length : Int) := by omega
      have hd := findL_drop l x k hlt
      generalize l[k] = p at *
      by_cases hp : p.1 = x
      · rw [if_pos hp] at hd
        have hb := bytes_beq_true hp
        have Hd := Lib.hid (Hf.out.trans hd)
        clear hd hp
        go_wp2
        go_ret
        exact ⟨ret_int Hd.out.symm, rfl⟩
      · rw [if_neg hp] at hd
        have hb := bytes_beq_false hp
        have Hd := Lib.hid (Hf.out.trans hd)
        clear hd hp
        go_wp2
        go_round
        case rel => exact ⟨k + 1, by omega, by go_num, Hd⟩
        case measure => simp [intOf]; omega
    · have hke : k = l.length := by omega
      have hlt' : ¬ (k : Int) < (l.length : Int) := by omega
      have hx : findL l x = 0 := by rw [Hf.out, hke, List.drop_length]; rfl
      have Hx := Lib.hid hx
      clear hx
      go_wp2
      go_ret
      exact ⟨ret_int Hx.out.symm, rfl⟩

/-- The place of a file; -1: there is none. -/
def placeL (l : List (Int × ByteArray × Int)) (m : Int) (i : Nat) : Int :=
  match l with
  | [] => -1
  | p :: r => if p.1 = m then i else placeL r m (i + 1)
theorem placeL_drop (l : List (Int × ByteArray × Int)) (m : Int) (k : Nat) (h : k < l.length) : placeL (l.drop k) m k = if l[k].1 = m then (k : Int) else placeL (l.drop (k + 1)) m (k + 1) := by
  rw [List.drop_eq_getElem_cons h]; rfl

set_option maxHeartbeats 1000000 in
theorem ref_place {w : World} {v : Value} {l : List (Int × ByteArray × Int)} (hr : RowOf w 76 3 encF v l) (hl : l.length ≤ 4294967296) (m : Int) :
    Calls Try.prog 54 #[v, .int .i64 m] w fun e w' => e = .returned (.int .i64 (placeL l m 0)) ∧ w = w' := by
  obtain ⟨A, c, rfl, _, hA⟩ := hr.form encF_enc
  have HA := Lib.hid hA
  clear hA
  go_enter Try.func54, Try.ntmps54
  go_wp2
  go_loop [5] (fun i => ∃ k : Nat, k ≤ l.length ∧ i = .int .i64 k ∧ Hid (placeL l m 0 = placeL (l.drop k) m k)) (fun i => l.length - (intOf i).toNat)
  case atStart => exact ⟨0, Nat.zero_le _, rfl, Lib.hid rfl⟩
  case round =>
    obtain ⟨k, hk, rfl, Hf⟩ := hrel
    by_cases hlt : k < l.length
    · obtain ⟨g, rfl, _, _, hcl0, hcl⟩ := HA.out k hlt
      have h0 := (hcl0 (.int .i64 l[k].1) rfl).1
      clear hcl hcl0
      have hlt' : (k : Int) < (l.length : Int) := by omega
      have hd := placeL_drop l m k hlt
      generalize l[k] = p at *
      by_cases hp : p.1 = m
      · rw [if_pos hp] at hd
        have hb : (p.1 == m) = true := by rw [beq_iff_eq]; exact hp
        have Hd := Lib.hid (Hf.out.trans hd)
        clear hd hp
        go_wp2
        go_ret
        exact ⟨ret_int Hd.out.symm, rfl⟩
      · rw [if_neg hp] at hd
        have hb : (p.1 == m) = false := by rw [beq_eq_false_iff_ne]; exact hp
        have Hd := Lib.hid (Hf.out.trans hd)
        clear hd hp
        go_wp2
        go_round
        case rel => exact ⟨k + 1, by omega, by go_num, Hd⟩
        case measure => simp [intOf]; omega
    · have hke : k = l.length := by omega
      have hlt' : ¬ (k : Int) < (l.length : Int) := by omega
      have hx : placeL l m 0 = -1 := by rw [Hf.out, hke, List.drop_length]; rfl
      have Hx := Lib.hid hx
      clear hx
      go_wp2
      go_ret
      exact ⟨ret_int Hx.out.symm, rfl⟩

def RD.arm (d : RD) (n e : Int) : RD := if n < 0 ∨ (e ≠ 14 ∧ e ≠ 13 ∧ e ≠ 15) then d else { d with armed := n, fault := e }

set_option maxHeartbeats 1000000 in
theorem ref_arm {w : World} {n B : Nat} {vF vN vK : Value} {r : RD} (hD : RefAt w n B vF vN vK r) (m e : Int) (hm : m ≤ 9223372036854775807) :
    Calls Try.prog 27 #[.pointer (some ⟨B, 0, none⟩), .int .i64 m, .int .i64 e] w fun e' w' => e' = .returned (.int .i64 (armE m e)) ∧ RefAt w' n B vF vN vK (r.arm m e) ∧ Keeps (One B) w w' := by
  have h5 := hD.c5
  have h6 := hD.c6
  have f5 := hD.blk.frozen 5
  have f6 := hD.blk.frozen 6
  by_cases hc : m < 0 ∨ (e ≠ 14 ∧ e ≠ 13 ∧ e ≠ 15)
  · have hx : armE m e = 1 := if_pos hc
    have hy : r.arm m e = r := if_pos hc
    have fin : Ending.returned (.int .i64 1) = .returned (.int .i64 (armE m e)) ∧ RefAt w n B vF vN vK (r.arm m e) ∧ Keeps (One B) w w := by
      rw [hx, hy]; exact ⟨rfl, hD, Keeps.refl _ _⟩
    have Fin := Lib.hid fin
    clear fin hx hy
    rcases hc with hc | ⟨c1, c2, c3⟩
    · go_enter Try.func27, Try.ntmps27
      go_wp2
      go_ret
      exact Fin.out
    · have b1 : (e != 14) = true := by rw [bne_iff_ne]; exact c1
      have b2 : (e != 13) = true := by rw [bne_iff_ne]; exact c2
      have b3 : (e != 15) = true := by rw [bne_iff_ne]; exact c3
      clear c1 c2 c3
      by_cases hn : m < 0
      all_goals
        go_enter Try.func27, Try.ntmps27
        go_wp2
        go_ret
        exact Fin.out
  · have hx : armE m e = 0 := if_neg hc
    have hy : r.arm m e = { r with armed := m, fault := e } := if_neg hc
    have hm0 : 0 ≤ m := by omega
    obtain ⟨l0, l1, s0, s1, a0, a1, n1, q1, q2, q3⟩ := hD.ok
    have fin : ∀ w', Blk w' B 35 (({ r with armed := m, fault := e } : RD).cells vF vN vK) → Keeps (One B) w w' → Ending.returned (.int .i64 0) = .returned (.int .i64 (armE m e)) ∧ RefAt w' n B vF vN vK (r.arm m e) ∧ Keeps (One B) w w' := by
      intro w' hb hk
      rw [hx, hy]
      exact ⟨rfl, hD.turn hk hb rfl rfl rfl ⟨l0, l1, s0, s1, by dsimp only; omega, by dsimp only; omega, n1, q1, q2, q3⟩, hk⟩
    have Fin := Lib.hid fin
    clear fin l0 l1 s0 s1 a0 a1 n1 q1 q2 q3 hx hy
    have he : e = 14 ∨ e = 13 ∨ e = 15 := by omega
    clear hc
    rcases he with rfl | rfl | rfl
    all_goals
      go_enter Try.func27, Try.ntmps27
      go_wp2
      go_ret
      exact Fin.out _ ((hD.blk.set_ 5 _).set_ 6 _) (((Keeps.refl (One B) w).setCell (p := ⟨B, 5, none⟩) (.inl rfl) _).setCell (p := ⟨B, 6, none⟩) (.inl rfl) _)
end Go.Proofs.Ytmjlbpgngahgmaa
