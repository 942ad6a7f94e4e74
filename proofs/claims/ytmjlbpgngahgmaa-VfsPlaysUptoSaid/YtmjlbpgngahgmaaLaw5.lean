/- The law VfsPlays: the walk. Conditions: the texts of the script are short. -/
import Derived.Test.YtmjlbpgngahgmaaLaw2
import Derived.Test.YtmjlbpgngahgmaaLaw3
import Derived.Test.YtmjlbpgngahgmaaLaw4
import Derived.Deep.Fields
namespace Go.Proofs.Ytmjlbpgngahgmaa
open Go.RowKit
set_option linter.unusedSimpArgs false

/-- The two pairs of disks behind k rounds. -/
def PlaysAt (w wr : World) (k B C B2 C2 : Nat) : Prop :=
  ∃ rf rn rk vF vN vK d r rf2 rn2 rk2 vF2 vN2 vK2 d2 r2, PairAt wr (3 * k) B C rf rn rk vF vN vK d r ∧ PairAt wr (3 * k) B2 C2 rf2 rn2 rk2 vF2 vN2 vK2 d2 r2 ∧
    (∀ b, fpP B rf rn rk C vF vN vK b → ¬ fpP B2 rf2 rn2 rk2 C2 vF2 vN2 vK2 b) ∧ (∀ b, fpP B rf rn rk C vF vN vK b ∨ fpP B2 rf2 rn2 rk2 C2 vF2 vN2 vK2 b → w.heap.size ≤ b) ∧ Keeps Nil w wr

theorem PlaysAt.swap {w wr : World} {k B C B2 C2 : Nat} (h : PlaysAt w wr k B C B2 C2) : PlaysAt w wr k B2 C2 B C := by
  obtain ⟨rf, rn, rk, vF, vN, vK, d, r, rf2, rn2, rk2, vF2, vN2, vK2, d2, r2, h1, h2, h3, h4, h5⟩ := h
  exact ⟨rf2, rn2, rk2, vF2, vN2, vK2, d2, r2, rf, rn, rk, vF, vN, vK, d, r, h2, h1, fun b hb hb' => h3 b hb' hb, fun b hb => h4 b hb.symm, h5⟩
theorem PlaysAt.keeps {w wr w' : World} {k B C B2 C2 : Nat} (h : PlaysAt w wr k B C B2 C2) (hk : Keeps Nil wr w') : PlaysAt w w' k B C B2 C2 := by
  obtain ⟨rf, rn, rk, vF, vN, vK, d, r, rf2, rn2, rk2, vF2, vN2, vK2, d2, r2, h1, h2, h3, h4, h5⟩ := h
  exact ⟨rf, rn, rk, vF, vN, vK, d, r, rf2, rn2, rk2, vF2, vN2, vK2, d2, r2, h1.keeps hk (fun _ _ h => h), h2.keeps hk (fun _ _ h => h), h3, h4, h5.same hk⟩
theorem PairAt.mono {w : World} {n m B C rf rn rk : Nat} {vF vN vK : Value} {d : DK} {r : RD} (h : PairAt w n B C rf rn rk vF vN vK d r) (hm : n ≤ m) (hb : m ≤ 16384) : PairAt w m B C rf rn rk vF vN vK d r :=
  ⟨h.disk.mono hm (by omega), h.ref.mono hm (by omega), h.sim, h.apart⟩
/-- A call of the first pair, behind a box that was just made. -/
theorem PlaysAt.does {w wr : World} {k B C B2 C2 : Nat} (h : PlaysAt w wr k B C B2 C2) (hk : k ≤ 200) (cs : Array Value) (t : TypeId) (kind m : Int) (p q : ByteArray) (hp : p.size ≤ 67108864) (hq : q.size ≤ 67108864) (hm : m ≤ 9223372036854775807) :
    Calls Try.prog 7 #[.pointer (some ⟨B, 0, none⟩), .pointer (some ⟨C, 0, none⟩), .agg #[.int .i64 kind, .string p, .string q, .int .i64 m]] (wr.alloc (.cells cs t)) fun e w' => e = .returned (.bool true) ∧ PlaysAt w w' (k + 1) B C B2 C2 ∧ Blk w' wr.heap.size t cs := by
  obtain ⟨rf, rn, rk, vF, vN, vK, d, r, rf2, rn2, rk2, vF2, vN2, vK2, d2, r2, h1, h2, h3, h4, h5⟩ := h
  have hA : Keeps Nil wr (wr.alloc (.cells cs t)) := (Keeps.refl _ _).alloc _
  have h1a := h1.keeps hA (fun _ _ h => h)
  have h2a := h2.keeps hA (fun _ _ h => h)
  refine (law_does h1a (by omega) kind m p q hp hq hm).mono ?_
  rintro e w' ⟨he, rf', rn', rk', vF', vN', vK', d', r', g1, g2, g3⟩
  have z := h5.size
  have zA := hA.size
  refine ⟨he, ⟨rf', rn', rk', vF', vN', vK', d', r', rf2, rn2, rk2, vF2, vN2, vK2, d2, r2, by rw [Nat.mul_add]; exact g1, (h2a.keeps g2 (fun b hb hb' => h3 b hb' hb)).mono (by omega) (by omega), fun b hb hb' => ?_, fun b hb => ?_, (h5.same hA).trans g2 (fun b hb hl => by
    have := h4 b (.inl hb); omega)⟩, (Blk.new wr t cs).keeps g2 (fun hb => by have := h1.lt _ hb; omega)⟩
  · rcases g3 b hb with e | e
    · exact h3 b e hb'
    · have := h2.lt b hb'; omega
  · rcases hb with hb | hb
    · rcases g3 b hb with e | e
      · exact h4 b (.inl e)
      · omega
    · exact h4 b (.inr hb)
/-- A look at the first pair. -/
theorem PlaysAt.looks {w wr : World} {k B C B2 C2 : Nat} (h : PlaysAt w wr k B C B2 C2) (x : ByteArray) (hx : x.size ≤ 9223372036854775807) :
    Calls Try.prog 8 #[.pointer (some ⟨B, 0, none⟩), .pointer (some ⟨C, 0, none⟩), .string x] wr fun e w' => e = .returned (.bool true) ∧ PlaysAt w w' k B C B2 C2 ∧ Keeps Nil wr w' := by
  have h' := h
  obtain ⟨rf, rn, rk, vF, vN, vK, d, r, rf2, rn2, rk2, vF2, vN2, vK2, d2, r2, h1, h2, h3, h4, h5⟩ := h
  exact (law_looks h1.disk h1.ref h1.sim x hx).mono fun e w' ⟨he, hk⟩ => ⟨he, h'.keeps hk, hk⟩

theorem add_more (a : Addr) (i j : Nat) (hj : 0 < j) : a.add (i + j) = ⟨(a.add i).block, (a.add i).off + j, none⟩ := by
  unfold Addr.add
  rw [if_neg (by omega)]
  by_cases hi : i = 0
  · rw [if_pos hi, hi, Nat.zero_add]
  · rw [if_neg hi, Nat.add_assoc]

/-- What the script holds. -/
structure Script (w : World) (A : Option Addr) (len : Nat) : Prop where
  at_ : ∀ i, i < len → ∃ a kind p q m, A = some a ∧ a.block < w.heap.size ∧ w.cell? (a.add (i * 4)) = some (.int .i64 kind) ∧ w.cell? (a.add (i * 4 + 1)) = some (.string p) ∧ w.cell? (a.add (i * 4 + 2)) = some (.string q) ∧
    w.cell? (a.add (i * 4 + 3)) = some (.int .i64 m) ∧ p.size ≤ 67108864 ∧ q.size ≤ 67108864 ∧ m ≤ 9223372036854775807

set_option maxRecDepth 100000 in
set_option maxHeartbeats 4000000 in
theorem vfs_plays {w : World} {A : Option Addr} {len cap : Nat} (hS : Script w A len) (hl : len ≤ 9223372036854775807) :
    Calls Try.prog 3 #[.slice A len cap] w fun e w' => e = .returned (.bool true) ∧ Keeps Nil w w' := by
  go_enter Try.func3, Try.ntmps3
  go_wp2_with fail
  refine (vfs_new _).mono ?_
  rintro e w1 ⟨B, rf, rn, rk, rfl, hD1, hK1, hn1⟩
  go_wp2_with fail
  refine (vfs_new _).mono ?_
  rintro e w2 ⟨B2, rf2, rn2, rk2, rfl, hD2, hK2, hn2⟩
  go_wp2_with fail
  refine (law_awake _).mono ?_
  rintro e w3 ⟨rfl, hK3⟩
  go_wp2_with fail
  refine (ref_new _).mono ?_
  rintro e w4 ⟨rfl, hR4, hK4⟩
  go_wp2_with fail
  refine (ref_new _).mono ?_
  rintro e w5 ⟨rfl, hR5, hK5⟩
  have hP : PlaysAt w w5 0 B w3.heap.size B2 w4.heap.size := by
    have z1 := hK1.size
    have z2 := hK2.size
    have z3 := hK3.size
    have z4 := hK4.size
    have n1 : ∀ b, fp4 B rf rn rk b → w.heap.size ≤ b ∧ b < w1.heap.size := fun b hb => ⟨hn1 b hb, hD1.lt b hb⟩
    have n2 : ∀ b, fp4 B2 rf2 rn2 rk2 b → w1.heap.size ≤ b ∧ b < w2.heap.size := fun b hb => ⟨hn2 b hb, hD2.lt b hb⟩
    have f1 : ∀ (X b : Nat), fpR X (.slice none 0 0) (.slice none 0 0) (.slice none 0 0) b → b = X := fun X b hb => by
      rcases hb with e | e | e | e
      · exact e
      · cases e
      · cases e
      · cases e
    have k35 := (((hK2.same hK3).same hK4).same hK5)
    refine ⟨rf, rn, rk, .slice none 0 0, .slice none 0 0, .slice none 0 0, DK.new, RD.new, rf2, rn2, rk2, .slice none 0 0, .slice none 0 0, .slice none 0 0, DK.new, RD.new,
      ⟨hD1.keeps k35 (fun _ _ h => h), hR4.keeps hK5 (fun _ _ h => h), Sim.new, fun b hb hb' => ?_⟩, ⟨hD2.keeps ((hK3.same hK4).same hK5) (fun _ _ h => h), hR5, Sim.new, fun b hb hb' => ?_⟩, fun b hb hb' => ?_, fun b hb => ?_, hK1.same k35⟩
    · have := n1 b hb; have := f1 _ b hb'; omega
    · have := n2 b hb; have := f1 _ b hb'; omega
    · rcases hb with hb | hb <;> rcases hb' with hb' | hb'
      · have := n1 b hb; have := n2 b hb'; omega
      · have := n1 b hb; have := f1 _ b hb'; omega
      · have := n2 b hb'; have := f1 _ b hb; omega
      · have := f1 _ b hb; have := f1 _ b hb'; have := hR4.blk.lt; omega
    · rcases hb with (hb | hb) | (hb | hb)
      · exact (n1 b hb).1
      · have := f1 _ b hb; omega
      · have := n2 b hb; omega
      · have := f1 _ b hb; omega
  have hSat := Lib.hid hS.at_
  generalize w3.heap.size = C at *
  generalize w4.heap.size = C2 at *
  clear hD1 hK1 hn1 hD2 hK2 hn2 hK3 hR4 hK4 hR5 hK5 hS
  go_wp2_with fail
  go_loopw [7] (fun i wr => ∃ k : Nat, k ≤ len ∧ k ≤ 200 ∧ i = .int .i64 k ∧ PlaysAt w wr k B C B2 C2) (fun i _ => 200 - (intOf i).toNat)
  case atStart => exact ⟨0, Nat.zero_le _, Nat.zero_le _, rfl, hP⟩
  case round =>
    obtain ⟨k, hk, hk2, rfl, hPk⟩ := hrel
    by_cases hlt' : k < len ∧ k < 200
    · obtain ⟨hlt, hlt2⟩ := hlt'
      · have i1 : (k : Int) < (len : Int) := by omega
        have i2 : (k : Int) < 200 := by omega
        obtain ⟨a, kind, p, q, m, rfl, hab, c0, c1, c2, c3, hp, hq, hm⟩ := hSat.out k hlt
        have hKw : Keeps Nil w wr := by
          obtain ⟨_, _, _, _, _, _, _, _, _, _, _, _, _, _, _, _, _, _, _, _, h5⟩ := hPk
          exact h5
        have lift : ∀ (j : Nat) (v : Value), w.cell? (a.add j) = some v → wr.cell? (a.add j) = some v := fun j v hv => by
          have hb : (a.add j).block = a.block := by unfold Addr.add; split <;> rfl
          exact (hKw.cell (p := a.add j) (by rw [hb]; exact hab) (fun h => h)).trans hv
        have e0 := lift _ _ c0
        have e1 := lift _ _ c1
        have e2 := lift _ _ c2
        have e3 := lift _ _ c3
        rw [add_more _ _ _ (by omega)] at e1 e2 e3
        clear lift c0 c1 c2 c3
        by_cases h5 : k % 5 = 4
        · have b5 : (((k : Int) % 5) == 4) = true := by rw [beq_iff_eq]; omega
          clear h5
          go_wp2_with fail
          refine (hPk.swap.does hk2 _ _ kind m p q hp hq hm).mono ?_
          rintro e w6 ⟨rfl, hP6, hb6⟩
          have y1 := hb6.cell 1
          go_wp2_with fail
          refine (hP6.looks p (by omega)).mono ?_
          rintro e w7 ⟨rfl, hP7, _⟩
          go_wp2
          go_roundw
          case rel => exact ⟨k + 1, by omega, by omega, by go_num, hP7.swap⟩
          case measure => simp [intOf]; omega
        · have b5 : (((k : Int) % 5) == 4) = false := by rw [beq_eq_false_iff_ne]; omega
          clear h5
          go_wp2_with fail
          refine (hPk.does hk2 _ _ kind m p q hp hq hm).mono ?_
          rintro e w6 ⟨rfl, hP6, hb6⟩
          have y1 := hb6.cell 1
          have y2 := hb6.cell 2
          go_wp2_with fail
          refine (hP6.looks p (by omega)).mono ?_
          rintro e w7 ⟨rfl, hP7, hk7⟩
          have y3 := (hb6.keeps hk7 (fun h => h)).cell 2
          go_wp2_with fail
          refine (hP7.looks q (by omega)).mono ?_
          rintro e w8 ⟨rfl, hP8, hk8⟩
          go_wp2
          go_roundw
          case rel => exact ⟨k + 1, by omega, by omega, by go_num, hP8⟩
          case measure => simp [intOf]; omega
    · have hcase : ¬ (k : Int) < (len : Int) ∨ ((k : Int) < (len : Int) ∧ ¬ (k : Int) < 200) := by omega
      clear hlt'
      rcases hcase with hc | ⟨hc, hc2⟩
      all_goals
        obtain ⟨rf, rn, rk, vF, vN, vK, d, r, rf2, rn2, rk2, vF2, vN2, vK2, d2, r2, h1, h2, h3, h4, h5⟩ := hPk
        obtain ⟨w1, hw1⟩ : ∃ w1, w1 = wr := ⟨_, rfl⟩
        subst hw1
        have hCl := h1.ref.blk.lt
        have c1 := h1.ref.c1
        have hnl := h1.ref.ok.nl
        have hnm : ∀ j (hj : j < r.names.length), (r.names[j].1).size ≤ 40 := fun j hj => h1.disk.no _ (by
          rw [(h1.sim.names.iff r.names[j].1 r.names[j].2).2 (List.getElem_mem hj)]
          simp)
        have Hnm := Lib.hid hnm
        clear hnm
        obtain ⟨A3, cap3, hv3, _, hA3⟩ := h1.ref.names.form encL_enc
        subst hv3
        have HA3 := Lib.hid hA3
        clear hA3
        go_wp2_with fail
        go_loopw [9] (fun i wr => ∃ j : Nat, j ≤ r.names.length ∧ i = .int .i64 j ∧ Keeps Nil w1 wr) (fun i _ => r.names.length - (intOf i).toNat)
        case atStart => exact ⟨0, Nat.zero_le _, rfl, Keeps.refl _ _⟩
        case round =>
          obtain ⟨j, hj, rfl, hkj⟩ := hrel
          have c1' := (hkj.cell (p := ⟨C, 1, none⟩) hCl (fun h => h)).trans c1
          by_cases hjl : j < r.names.length
          · have j1 : (j : Int) < (r.names.length : Int) := by omega
            have j0 : (0 : Int) ≤ (j : Int) := by omega
            obtain ⟨g, rfl, _, hgl, hg0, _⟩ := HA3.out j hjl
            have q0 := (hkj.cell (p := ⟨g, j * 2, none⟩) hgl (fun h => h)).trans (hg0 (.string r.names[j].1) rfl).1
            have hsz := Hnm.out j hjl
            clear hg0
            generalize r.names[j].1 = nm at q0 hsz
            have p1 := h1.keeps hkj (fun _ _ h => h)
            go_wp2_with fail
            refine (law_looks p1.disk p1.ref p1.sim nm (by omega)).mono ?_
            rintro e w6 ⟨rfl, hk6⟩
            go_wp2
            go_roundw
            case rel => exact ⟨j + 1, by omega, by go_num, hkj.same hk6⟩
            case measure => simp [intOf]; omega
          · have j1 : ¬ (j : Int) < (r.names.length : Int) := by omega
            have p2 := h2.keeps hkj (fun _ _ h => h)
            go_wp2_with fail
            refine (law_looks p2.disk p2.ref p2.sim ⟨#[97]⟩ (by decide)).mono ?_
            rintro e w6 ⟨rfl, hk6⟩
            go_wp2
            go_ret
            exact ⟨rfl, (h5.same hkj).same hk6⟩
end Go.Proofs.Ytmjlbpgngahgmaa
