/- Names of files, and the first refusals: Name, may. No conditions. -/
import Derived.Test.YtmjlbpgngahgmaaVfs1
import Derived.Lib.ConvBytes
namespace Go.Proofs.Ytmjlbpgngahgmaa
open Go.RowKit Go.MapKept

def okI (x : Int) : Prop := (97 ≤ x ∧ x ≤ 122) ∨ (48 ≤ x ∧ x ≤ 57) ∨ x = 95 ∨ x = 46
instance (x : Int) : Decidable (okI x) := by unfold okI; infer_instance
def okC (c : UInt8) : Bool := decide (okI c.toNat)
def nameB (s : ByteArray) : Bool := decide (0 < s.size) && decide (s.size ≤ 40) && s.data.toList.all okC

theorem Keeps.bytes {S : Nat → Prop} {w w' : World} (h : Keeps S w w') (e : TypeId) (s : ByteArray) : Keeps S w (Lib.bytesWorld w' e s) :=
  ⟨h.os, h.tape, h.output, by rw [Lib.bytesWorld_size]; exact Nat.le_trans h.size (Nat.le_succ _), fun i hi hn => (Lib.bytesWorld_at_old w' e s i (Nat.lt_of_lt_of_le hi h.size)).trans (h.block i hi hn)⟩

theorem empty_toList {s : ByteArray} : s.toList.isEmpty = decide (s.size = 0) := by
  rw [ByteArray.toList_eq]
  have : s.size = s.data.toList.length := Array.length_toList.symm
  rw [this]
  cases s.data.toList with
  | nil => rfl
  | cons a l => rfl

theorem ret_bool {a b : Bool} (h : a = b) : Ending.returned (.bool a) = .returned (.bool b) := by rw [h]
theorem ret_int {k : IntKind} {a b : Int} (h : a = b) : Ending.returned (.int k a) = .returned (.int k b) := by rw [h]

theorem all_take_succ (l : List UInt8) (k : Nat) (h : k < l.length) (p : UInt8 → Bool) : (l.take (k + 1)).all p = ((l.take k).all p && p (l[k])) := by
  rw [List.take_succ_eq_append_getElem h, List.all_append]; simp only [List.all_cons, List.all_nil, Bool.and_true]

set_option maxHeartbeats 1000000 in
theorem vfs_name (s : ByteArray) (w : World) : Calls Try.prog 33 #[.string s] w fun e w' => e = .returned (.bool (nameB s)) ∧ Keeps Nil w w' := by
  have hcv := fun W : World => Lib.run_convert_string_bytes (P := Try.prog) W 9 87 5 s Try.underlying9 Try.underlying87 Try.underlying5
  by_cases h0 : s.size = 0
  · have h1 : s.toList.isEmpty = true := by rw [empty_toList, h0]; rfl
    have hx : nameB s = false := by simp [nameB, h0]
    have H0 := Lib.hid h0
    have Hx := Lib.hid hx
    clear h0 hx
    go_enter Try.func33, Try.ntmps33
    go_wp2
    go_ret
    exact ⟨ret_bool Hx.out.symm, Keeps.refl _ _⟩
  · have h0' : s.toList.isEmpty = false := by rw [empty_toList]; exact decide_eq_false h0
    by_cases h1 : 40 < s.size
    · have hx : nameB s = false := by simp [nameB]; intro; omega
      have Hx := Lib.hid hx
      clear hx
      have h1' : (40 : Int) < (s.size : Int) := by omega
      go_enter Try.func33, Try.ntmps33
      go_wp2
      go_ret
      exact ⟨ret_bool Hx.out.symm, Keeps.refl _ _⟩
    · have h1' : (s.size : Int) ≤ 40 := by omega
      have hpos : 0 < s.size := by omega
      have hl : s.data.toList.length = s.size := Array.length_toList
      have hk0 := (Keeps.refl Nil w).bytes 5 s
      have Hl := Lib.hid hl
      have HK := Lib.hid hk0
      clear hl hk0 h0
      go_enter Try.func33, Try.ntmps33
      go_wp2
      go_loop [4, 15] (fun _ i => ∃ k : Nat, k ≤ s.size ∧ i = .int .i64 k ∧ Hid ((s.data.toList.take k).all okC = true)) (fun _ i => s.size - (intOf i).toNat)
      case atStart => exact ⟨0, Nat.zero_le _, rfl, Lib.hid rfl⟩
      case round =>
        obtain ⟨k, hk, rfl, Ha⟩ := hrel
        by_cases hlt : k < s.size
        · have hcell := Lib.bytesWorld_cell w 5 s k hlt
          have hget : s.data.toList.getD k 0 = s.data.toList[k]'(by rw [Hl.out]; exact hlt) := by
            rw [List.getD_eq_getElem?_getD, List.getElem?_eq_getElem (by rw [Hl.out]; exact hlt)]; rfl
          have hlt' : (k : Int) < (s.size : Int) := by omega
          have hk1 := all_take_succ s.data.toList k (by rw [Hl.out]; exact hlt) okC
          rw [Ha.out, ← hget, Bool.true_and] at hk1
          have Hk1 := Lib.hid hk1
          clear hk1
          clear hget
          generalize s.data.toList.getD k 0 = c at *
          by_cases hc : okI c.toNat
          · have Hc : Hid (okC c = true) := Lib.hid (decide_eq_true hc)
            have hb : c.toNat < 256 := c.toNat_lt
            unfold okI at hc
            generalize hxx : ((c.toNat : Nat) : Int) = x at *
            have Hxx := Lib.hid hxx
            clear hxx
            rcases hc with ⟨c1, c2⟩ | ⟨c1, c2⟩ | rfl | rfl
            all_goals
              go_wp2
              go_round
              case rel => exact ⟨k + 1, by omega, by go_num, Lib.hid (Hk1.out.trans Hc.out)⟩
              case measure => simp [intOf]; omega
          · have Hc : Hid (okC c = false) := Lib.hid (decide_eq_false hc)
            have hb : c.toNat < 256 := c.toNat_lt
            unfold okI at hc
            generalize hxx : ((c.toNat : Nat) : Int) = x at *
            have Hxx := Lib.hid hxx
            clear hxx
            have hx : nameB s = false := by
              cases hn : nameB s with
              | false => rfl
              | true =>
                simp only [nameB, Bool.and_eq_true] at hn
                have := hn.2
                rw [← List.take_append_drop (k + 1) s.data.toList, List.all_append, Hk1.out, Hc.out] at this
                cases this
            have Hx := Lib.hid hx
            clear hx
            have d1 : (x != 95) = true := by rw [bne_iff_ne]; omega
            have d2 : (x != 46) = true := by rw [bne_iff_ne]; omega
            go_wp2
            all_goals first
              | (go_ret; exact ⟨ret_bool Hx.out.symm, HK.out⟩)
              | (exfalso; omega)
              | go_ways
        · have hke : k = s.size := by omega
          have hx : nameB s = true := by
            have h2 := Ha.out
            rw [hke, ← Hl.out, List.take_length] at h2
            simp only [nameB, Bool.and_eq_true, decide_eq_true_eq]
            exact ⟨⟨hpos, by omega⟩, h2⟩
          have Hx := Lib.hid hx
          clear hx
          go_wp2
          go_ret
          exact ⟨ret_bool Hx.out.symm, HK.out⟩

/-- The first refusals. -/
def mayE (down : Bool) (l : List ByteArray) : Int := if l.all nameB then (if down then 15 else 0) else 1

theorem all_take_succ' (l : List ByteArray) (k : Nat) (h : k < l.length) (p : ByteArray → Bool) : (l.take (k + 1)).all p = ((l.take k).all p && p (l[k])) := by
  rw [List.take_succ_eq_append_getElem h, List.all_append]; simp only [List.all_cons, List.all_nil, Bool.and_true]

set_option maxHeartbeats 1000000 in
theorem vfs_may {w : World} {n B rf rn rk : Nat} {d : DK} (hD : DiskAt w n B rf rn rk d) (A : Option Addr) (l : List ByteArray) (c : Nat) (hlen : l.length ≤ 1000)
    (hA : ∀ k, (h : k < l.length) → ∃ b, A = some ⟨b, 0, none⟩ ∧ b < w.heap.size ∧ w.cell? ⟨b, k, none⟩ = some (.string l[k])) :
    Calls Try.prog 37 #[.pointer (some ⟨B, 0, none⟩), .slice A l.length c] w fun e w' => e = .returned (.int .i64 (mayE d.down l)) ∧ Keeps Nil w w' := by
  have HA := Lib.hid hA
  clear hA
  go_enter Try.func37, Try.ntmps37
  go_wp2
  go_loopw [6, 11] (fun _ i wr => ∃ k : Nat, k ≤ l.length ∧ i = .int .i64 k ∧ Hid ((l.take k).all nameB = true) ∧ Keeps Nil w wr) (fun _ i _ => l.length - (intOf i).toNat)
  case atStart => exact ⟨0, Nat.zero_le _, rfl, Lib.hid rfl, Keeps.refl _ _⟩
  case round =>
    obtain ⟨k, hk, rfl, Ha, hK⟩ := hrel
    by_cases hlt : k < l.length
    · obtain ⟨b, rfl, hb, hcell⟩ := HA.out k hlt
      have hc := (hK.cell (p := ⟨b, k, none⟩) hb (fun h => h)).trans hcell
      clear hcell
      have hlt' : (k : Int) < (l.length : Int) := by omega
      have hk1 := all_take_succ' l k hlt nameB
      rw [Ha.out, Bool.true_and] at hk1
      have Hk1 := Lib.hid hk1
      clear hk1
      generalize l[k] = x at *
      cases hb' : nameB x with
      | true =>
        have Hb := Lib.hid hb'
        go_wp2_with (go_at_call 33; refine (vfs_name _ _).mono ?_; rintro e w1 ⟨rfl, hK1⟩)
        go_roundw
        case rel => exact ⟨k + 1, by omega, by go_num, Lib.hid (Hk1.out.trans Hb.out), hK.same hK1⟩
        case measure => simp [intOf]; omega
      | false =>
        have hx : mayE d.down l = 1 := by
          have : l.all nameB = false := by
            rw [← List.take_append_drop (k + 1) l, List.all_append, Hk1.out, hb']; rfl
          simp [mayE, this]
        have Hx := Lib.hid hx
        clear hx
        go_wp2_with (go_at_call 33; refine (vfs_name _ _).mono ?_; rintro e w1 ⟨rfl, hK1⟩)
        go_ret
        exact ⟨ret_int Hx.out.symm, hK.same hK1⟩
    · have hke : k = l.length := by omega
      have hall : l.all nameB = true := by have h2 := Ha.out; rwa [hke, List.take_length] at h2
      have h7 := (hD.keeps hK (fun _ _ h => h)).c7
      cases hdn : d.down with
      | true =>
        rw [hdn] at h7
        have hx : mayE d.down l = 15 := by simp [mayE, hall, hdn]
        have Hx := Lib.hid hx
        clear hx hall hdn
        subst hke
        go_wp2
        go_ret
        exact ⟨ret_int Hx.out.symm, hK⟩
      | false =>
        rw [hdn] at h7
        have hx : mayE d.down l = 0 := by simp [mayE, hall, hdn]
        have Hx := Lib.hid hx
        clear hx hall hdn
        subst hke
        go_wp2
        go_ret
        exact ⟨ret_int Hx.out.symm, hK⟩

/-- may, at one name, at two, at none. -/
theorem vfs_may1 {w : World} {n B rf rn rk : Nat} {d : DK} (hD : DiskAt w n B rf rn rk d) (b c : Nat) (x : ByteArray) (hc : w.cell? ⟨b, 0, none⟩ = some (.string x)) :
    Calls Try.prog 37 #[.pointer (some ⟨B, 0, none⟩), .slice (some ⟨b, 0, none⟩) 1 c] w fun e w' => e = .returned (.int .i64 (mayE d.down [x])) ∧ Keeps Nil w w' :=
  vfs_may hD (some ⟨b, 0, none⟩) [x] c (by simp) fun k hk => by
    have : k = 0 := by simp at hk; exact hk
    subst this
    exact ⟨b, rfl, World.block_lt_of_cell? w _ hc, hc⟩
theorem vfs_may2 {w : World} {n B rf rn rk : Nat} {d : DK} (hD : DiskAt w n B rf rn rk d) (b c : Nat) (x y : ByteArray) (hc : w.cell? ⟨b, 0, none⟩ = some (.string x)) (hc' : w.cell? ⟨b, 1, none⟩ = some (.string y)) :
    Calls Try.prog 37 #[.pointer (some ⟨B, 0, none⟩), .slice (some ⟨b, 0, none⟩) 2 c] w fun e w' => e = .returned (.int .i64 (mayE d.down [x, y])) ∧ Keeps Nil w w' :=
  vfs_may hD (some ⟨b, 0, none⟩) [x, y] c (by simp) fun k hk => by
    have : k = 0 ∨ k = 1 := by simp at hk; omega
    rcases this with rfl | rfl
    · exact ⟨b, rfl, World.block_lt_of_cell? w _ hc, hc⟩
    · exact ⟨b, rfl, World.block_lt_of_cell? w _ hc, hc'⟩
theorem vfs_may0 {w : World} {n B rf rn rk : Nat} {d : DK} (hD : DiskAt w n B rf rn rk d) :
    Calls Try.prog 37 #[.pointer (some ⟨B, 0, none⟩), .slice none 0 0] w fun e w' => e = .returned (.int .i64 (mayE d.down [])) ∧ Keeps Nil w w' :=
  vfs_may hD none [] 0 (by simp) fun k hk => absurd hk (by simp)

set_option maxHeartbeats 400000 in
theorem vfs_steps {w : World} {n B rf rn rk : Nat} {d : DK} (hD : DiskAt w n B rf rn rk d) :
    Calls Try.prog 13 #[.pointer (some ⟨B, 0, none⟩)] w fun e w' => e = .returned (.int .i64 d.steps) ∧ w = w' := by
  have h4 := hD.c4
  go_enter Try.func13, Try.ntmps13
  go_wp2
  go_ret
  exact ⟨rfl, rfl⟩
set_option maxHeartbeats 400000 in
theorem vfs_down {w : World} {n B rf rn rk : Nat} {d : DK} (hD : DiskAt w n B rf rn rk d) :
    Calls Try.prog 32 #[.pointer (some ⟨B, 0, none⟩)] w fun e w' => e = .returned (.bool d.down) ∧ w = w' := by
  have h7 := hD.c7
  go_enter Try.func32, Try.ntmps32
  go_wp2
  go_ret
  exact ⟨rfl, rfl⟩
set_option maxHeartbeats 400000 in
theorem vfs_calm {w : World} {n B rf rn rk : Nat} {d : DK} (hD : DiskAt w n B rf rn rk d) :
    Calls Try.prog 28 #[.pointer (some ⟨B, 0, none⟩)] w fun e w' => e = .returned (.tuple #[]) ∧ DiskAt w' n B rf rn rk { d with armed := -1 } ∧ Keeps (One B) w w' := by
  have h5 := hD.c5
  have f5 := hD.blk.frozen 5
  go_enter Try.func28, Try.ntmps28
  go_wp2
  go_end0
  have k := (Keeps.refl (One B) w).setCell (p := ⟨B, 5, none⟩) (.inl rfl) (.int .i64 (-1))
  obtain ⟨l0, l1, s0, s1, a0, a1, n1⟩ := hD.ok
  exact ⟨rfl, hD.turn k (hD.blk.set_ 5 _) rfl rfl rfl ⟨l0, l1, s0, s1, by dsimp only; omega, by dsimp only; omega, n1⟩, k⟩

/-- Arm's answer. -/
def armE (n e : Int) : Int := if n < 0 ∨ (e ≠ 14 ∧ e ≠ 13 ∧ e ≠ 15) then 1 else 0
def DK.arm (d : DK) (n e : Int) : DK := if n < 0 ∨ (e ≠ 14 ∧ e ≠ 13 ∧ e ≠ 15) then d else { d with armed := n, fault := e }

set_option maxHeartbeats 1000000 in
theorem vfs_arm {w : World} {n B rf rn rk : Nat} {d : DK} (hD : DiskAt w n B rf rn rk d) (m e : Int) (hm : m ≤ 9223372036854775807) :
    Calls Try.prog 25 #[.pointer (some ⟨B, 0, none⟩), .int .i64 m, .int .i64 e] w fun e' w' => e' = .returned (.int .i64 (armE m e)) ∧ DiskAt w' n B rf rn rk (d.arm m e) ∧ Keeps (One B) w w' := by
  have h5 := hD.c5
  have h6 := hD.c6
  have f5 := hD.blk.frozen 5
  have f6 := hD.blk.frozen 6
  by_cases hc : m < 0 ∨ (e ≠ 14 ∧ e ≠ 13 ∧ e ≠ 15)
  · have hx : armE m e = 1 := if_pos hc
    have hy : d.arm m e = d := if_pos hc
    have Hx := Lib.hid hx
    have Hy := Lib.hid hy
    clear hx hy
    have fin : Ending.returned (.int .i64 1) = .returned (.int .i64 (armE m e)) ∧ DiskAt w n B rf rn rk (d.arm m e) ∧ Keeps (One B) w w := by
      rw [Hx.out, Hy.out]; exact ⟨rfl, hD, Keeps.refl _ _⟩
    have Fin := Lib.hid fin
    clear fin
    rcases hc with hc | ⟨c1, c2, c3⟩
    · go_enter Try.func25, Try.ntmps25
      go_wp2
      go_ret
      exact Fin.out
    · have b1 : (e != 14) = true := by rw [bne_iff_ne]; exact c1
      have b2 : (e != 13) = true := by rw [bne_iff_ne]; exact c2
      have b3 : (e != 15) = true := by rw [bne_iff_ne]; exact c3
      clear c1 c2 c3
      by_cases hn : m < 0
      all_goals
        go_enter Try.func25, Try.ntmps25
        go_wp2
        go_ret
        exact Fin.out
  · have hx : armE m e = 0 := if_neg hc
    have hy : d.arm m e = { d with armed := m, fault := e } := if_neg hc
    have Hx := Lib.hid hx
    have Hy := Lib.hid hy
    clear hx hy
    have hm0 : 0 ≤ m := by omega
    obtain ⟨l0, l1, s0, s1, a0, a1, n1⟩ := hD.ok
    have fin : ∀ w', Blk w' B 43 (({ d with armed := m, fault := e } : DK).cells rf rn rk) → Keeps (One B) w w' → Ending.returned (.int .i64 0) = .returned (.int .i64 (armE m e)) ∧ DiskAt w' n B rf rn rk (d.arm m e) ∧ Keeps (One B) w w' := by
      intro w' hb hk
      rw [Hx.out, Hy.out]
      exact ⟨rfl, hD.turn hk hb rfl rfl rfl ⟨l0, l1, s0, s1, by dsimp only; omega, by dsimp only; omega, n1⟩, hk⟩
    have Fin := Lib.hid fin
    clear fin l0 l1 s0 s1 a0 a1 n1
    have he : e = 14 ∨ e = 13 ∨ e = 15 := by omega
    clear hc
    rcases he with rfl | rfl | rfl
    all_goals
      go_enter Try.func25, Try.ntmps25
      go_wp2
      go_ret
      exact Fin.out _ ((hD.blk.set_ 5 _).set_ 6 _) (((Keeps.refl (One B) w).setCell (p := ⟨B, 5, none⟩) (.inl rfl) _).setCell (p := ⟨B, 6, none⟩) (.inl rfl) _)
end Go.Proofs.Ytmjlbpgngahgmaa
