/- The law's small functions: two lists of texts alike; a fault by its letter. No conditions but sizes. -/
import Derived.Test.YtmjlbpgngahgmaaVfs4
import Derived.Test.YtmjlbpgngahgmaaRw
import Derived.Deep.QuietTactic
import Derived.BigQuiet
namespace Go.Proofs.Ytmjlbpgngahgmaa
open Go.RowKit

theorem OwnTexts.keeps {w w' : World} {base : Nat} {v : Value} {l : List ByteArray} {S : Nat → Prop} (h : OwnTexts w base v l) (k : Keeps S w w') (hn : ∀ b, OwnB v b → ¬ S b) : OwnTexts w' base v l := by
  have hl : ∀ b, OwnB v b → b < w.heap.size := fun b hb => (World.ownsRow.lt h b hb).2
  refine ⟨h.1, ?_⟩
  rcases h.2 with h2 | ⟨g, cap, cur, rfl, hb, hg, h3⟩
  · exact .inl h2
  · exact .inr ⟨g, cap, cur, rfl, hb, (k.block g (hl g rfl) (hn g rfl)).trans hg, h3⟩
theorem OwnTexts.cells {w : World} {base : Nat} {v : Value} {l : List ByteArray} (h : OwnTexts w base v l) :
    ∃ A c, v = .slice A l.length c ∧ l.length ≤ c ∧ ∀ (k : Nat) (hk : k < l.length), ∃ g, A = some ⟨g, 0, none⟩ ∧ base ≤ g ∧ g < w.heap.size ∧ w.cell? ⟨g, k, none⟩ = some (.string l[k]) := by
  obtain ⟨A, c, h1, h2, h3⟩ := row_form h
  exact ⟨A, c, h1, h2, fun k hk => h3 k _ (by rw [List.getElem?_map, List.getElem?_eq_getElem hk]; rfl)⟩

theorem texts_beq (a : ByteArray) : (a.toList == a.toList) = true := beq_self_eq_true _

set_option maxHeartbeats 1000000 in
theorem ref_same {w : World} {ba bb : Nat} {a b : Value} {l : List ByteArray} (ha : OwnTexts w ba a l) (hb : OwnTexts w bb b l) (hl : l.length ≤ 4294967296) :
    Calls Try.prog 14 #[a, b] w fun e w' => e = .returned (.bool true) ∧ ∃ n, w' = w.drewN n := by
  obtain ⟨A, c, rfl, hc, hA⟩ := ha.cells
  obtain ⟨A', c', rfl, hc', hA'⟩ := hb.cells
  have HA := Lib.hid hA
  have HA' := Lib.hid hA'
  clear hA hA' ha hb
  go_enter Try.func14, Try.ntmps14
  go_wp2
  go_loopw [5] (fun i wr => ∃ k n : Nat, k ≤ l.length ∧ i = .int .i64 k ∧ wr = w.drewN n) (fun i _ => l.length - (intOf i).toNat)
  case atStart => exact ⟨0, 0, Nat.zero_le _, rfl, rfl⟩
  case round =>
    obtain ⟨k, n, hk, rfl, hwr⟩ := hrel
    have Hwr := Lib.hid hwr
    clear hwr
    by_cases hlt : k < l.length
    · obtain ⟨g, rfl, _, _, h0⟩ := HA.out k hlt
      obtain ⟨g', rfl, _, _, h1⟩ := HA'.out k hlt
      have hlt' : (k : Int) < (l.length : Int) := by omega
      have hk0 : (0 : Int) ≤ (k : Int) := by omega
      have e0 : wr.cell? ⟨g, k, none⟩ = some (.string l[k]) := by rw [Hwr.out]; exact h0
      have e1 : wr.cell? ⟨g', k, none⟩ = some (.string l[k]) := by rw [Hwr.out]; exact h1
      clear h0 h1
      generalize l[k] = x at *
      have hb := texts_beq x
      go_wp2
      go_quiet (fail)
      go_wp2
      go_roundw
      case rel => exact ⟨k + 1, n + nq, by omega, by go_num, by rw [Hwr.out]; simp⟩
      case measure => simp [intOf]; omega
    · have hke : k = l.length := by omega
      have hlt' : ¬ (k : Int) < (l.length : Int) := by omega
      go_wp2
      go_ret
      exact ⟨rfl, n, Hwr.out⟩

/-- An error by a letter. -/
def faultI (s : ByteArray) : Int := if (s.toList == [105]) = true then 14 else if (s.toList == [102]) = true then 13 else if (s.toList == [100]) = true then 15 else 11

set_option maxHeartbeats 1000000 in
theorem law_fault (s : ByteArray) (w : World) :
    Calls Try.prog 26 #[.string s] w fun e w' => e = .returned (.int .i64 (faultI s)) ∧ w = w' := by
  by_cases h1 : (s.toList == [105]) = true
  · have hf : faultI s = 14 := by unfold faultI; rw [if_pos h1]
    have Hf := Lib.hid hf
    clear hf
    go_enter Try.func26, Try.ntmps26
    go_wp2
    go_ret
    rw [Hf.out]
    exact ⟨rfl, rfl⟩
  · by_cases h2 : (s.toList == [102]) = true
    · have hf : faultI s = 13 := by unfold faultI; rw [if_neg h1, if_pos h2]
      have Hf := Lib.hid hf
      have h1' : (s.toList == [105]) = false := by simpa using h1
      clear hf h1
      go_enter Try.func26, Try.ntmps26
      go_wp2
      go_ret
      rw [Hf.out]
      exact ⟨rfl, rfl⟩
    · by_cases h3 : (s.toList == [100]) = true
      · have hf : faultI s = 15 := by unfold faultI; rw [if_neg h1, if_neg h2, if_pos h3]
        have Hf := Lib.hid hf
        have h1' : (s.toList == [105]) = false := by simpa using h1
        have h2' : (s.toList == [102]) = false := by simpa using h2
        clear hf h1 h2
        go_enter Try.func26, Try.ntmps26
        go_wp2
        go_ret
        rw [Hf.out]
        exact ⟨rfl, rfl⟩
      · have hf : faultI s = 11 := by unfold faultI; rw [if_neg h1, if_neg h2, if_neg h3]
        have Hf := Lib.hid hf
        have h1' : (s.toList == [105]) = false := by simpa using h1
        have h2' : (s.toList == [102]) = false := by simpa using h2
        have h3' : (s.toList == [100]) = false := by simpa using h3
        clear hf h1 h2 h3
        go_enter Try.func26, Try.ntmps26
        go_wp2
        go_ret
        rw [Hf.out]
        exact ⟨rfl, rfl⟩
end Go.Proofs.Ytmjlbpgngahgmaa
