/- The check that lists share no memory (Apart) answers true for lists that lie in blocks of their own. No conditions but sizes. -/
import Derived.Test.YtmjlbpgngahgmaaLaw1
import Derived.Test.YtmjlbpgngahgmaaRef7
import Derived.Test.YtmjlbpgngahgmaaRw3
import Derived.BigRegion
import Derived.StillTailTactics
namespace Go.Proofs.Ytmjlbpgngahgmaa
open Go.RowKit
set_option linter.unusedSimpArgs false

/-- The lists that Apart is handed: each its own row, no two in one block. -/
structure ListsAt (w : World) (N g : Nat) (V : Nat → Value) (L : Nat → List ByteArray) (cs : Array Value) : Prop where
  blk : Blk w g 50 cs
  at_ : ∀ k, k < N → cs[k]? = some (V k)
  row : ∀ k, k < N → RowOf w 9 1 encS (V k) (L k)
  apart : ∀ i j, i < N → j < N → i ≠ j → ∀ b, OwnB (V i) b → ¬ OwnB (V j) b
  len : ∀ k, k < N → (L k).length ≤ 1073741824

def AllB (N : Nat) (V : Nat → Value) : Nat → Prop := fun b => ∃ k, k < N ∧ OwnB (V k) b

def marksB : ByteArray := ⟨#[97, 98, 99, 100, 101, 102, 103, 104, 105, 106, 107, 108, 109, 110, 111, 112, 113, 114, 115, 116, 117, 118, 119, 120, 121, 122]⟩
def wasB (m : ByteArray) (i : Nat) : ByteArray := (⟨#[119, 97, 115]⟩ : ByteArray) ++ m.extract (i % 26) (i % 26 + 1)
def newB (m : ByteArray) (i : Nat) : ByteArray := (⟨#[110, 101, 119]⟩ : ByteArray) ++ m.extract (i % 26) (i % 26 + 1)

/-- Behind n lists that are marked. -/
def mark1 (m : ByteArray) (L : Nat → List ByteArray) (n j : Nat) : List ByteArray := if j < n then List.replicate (L j).length (wasB m j) else L j
structure Mark (w : World) (N : Nat) (V : Nat → Value) (m : ByteArray) (L : Nat → List ByteArray) (n : Nat) (wr : World) : Prop where
  row : ∀ j, j < N → RowOf wr 9 1 encS (V j) (mark1 m L n j)
  keep : Keeps (AllB N V) w wr
/-- In the midst of one list. -/
structure Mark2 (wo : World) (v x : Value) (l : List ByteArray) (y : ByteArray) (k : Nat) (wr : World) : Prop where
  row : RowOf wr 9 1 encS v (List.replicate k y ++ l.drop k)
  keep : Keeps (OwnB v) wo wr

theorem rep_set (l : List ByteArray) (y : ByteArray) (k : Nat) (hk : k < l.length) : (List.replicate k y ++ l.drop k).set k y = List.replicate (k + 1) y ++ l.drop (k + 1) := by
  rw [List.set_append_right _ _ (by simp), List.length_replicate, Nat.sub_self, List.drop_eq_getElem_cons hk, List.set_cons_zero, List.replicate_succ', List.append_assoc]
  rfl

/-- A slice value, as its parts. -/
abbrev SV := Option Addr × Nat × Nat
def sv (p : SV) : Value := .slice p.1 p.2.1 p.2.2
def encV (p : SV) : List Value := [sv p]
theorem encV_enc : Enc 1 encV := ⟨fun _ => rfl, fun x u hu => by simp [encV, sv] at hu; subst hu; rfl⟩
theorem elV : ElemT Try.prog 63 50 1 24 :=
  ⟨Try.underlying63, by
    have h : (Try.prog.info? 50).map (fun i => (i.zero, i.size, i.bytes)) = some (some (.slice none 0 0), 1, 24) := by kernel_rfl
    obtain ⟨i, hi, h1, h2, h3⟩ := info_parts h
    exact ⟨i, _, hi, h1, h2, h3, rfl⟩, by omega⟩

/-- A slice whose cells read as a list of texts. -/
def ReadsT (w : World) (v : Value) (l : List ByteArray) : Prop :=
  ∃ A c, v = .slice A l.length c ∧ l.length ≤ c ∧ ∀ (k : Nat) (hk : k < l.length), ∃ g, A = some ⟨g, 0, none⟩ ∧ g < w.heap.size ∧ w.cell? ⟨g, k, none⟩ = some (.string l[k])
theorem ReadsT.of_row {w : World} {v : Value} {l : List ByteArray} (h : RowOf w 9 1 encS v l) : ReadsT w v l := by
  obtain ⟨A, c, hv, hc, hA⟩ := h.form encS_enc
  refine ⟨A, c, hv, hc, fun k hk => ?_⟩
  obtain ⟨g, h1, _, h3, h4, _⟩ := hA k hk
  have := (h4 (.string l[k]) rfl).1
  rw [Nat.mul_one] at this
  exact ⟨g, h1, h3, this⟩
theorem ReadsT.keeps {w w' : World} {v : Value} {l : List ByteArray} {S : Nat → Prop} (h : ReadsT w v l) (k : Keeps S w w') (hn : ∀ b, OwnB v b → ¬ S b) : ReadsT w' v l := by
  obtain ⟨A, c, hv, hc, hA⟩ := h
  refine ⟨A, c, hv, hc, fun j hj => ?_⟩
  obtain ⟨g, h1, h2, h3⟩ := hA j hj
  refine ⟨g, h1, Nat.lt_of_lt_of_le h2 k.size, (k.cell (p := ⟨g, j, none⟩) h2 (hn g ?_)).trans h3⟩
  rw [hv, h1]; rfl
theorem ReadsT.of_prefix {w : World} {v u : Value} {l m : List ByteArray} (h : RowOf w 9 1 encS u (l ++ m)) (hb : u.ownBlock = v.ownBlock) {w0 : World} (h0 : ReadsT w0 v l) : ReadsT w v l := by
  obtain ⟨A, c, hv, hc, hA⟩ := h0
  refine ⟨A, c, hv, hc, fun k hk => ?_⟩
  obtain ⟨g, h1, _, _⟩ := hA k hk
  obtain ⟨A', c', hu, _, hA'⟩ := h.form encS_enc
  obtain ⟨g', k1, _, k3, k4, _⟩ := hA' k (by rw [List.length_append]; omega)
  have hg : g' = g := by
    rw [hu, hv, k1, h1] at hb
    simpa [Value.ownBlock] using hb
  subst hg
  have := (k4 (.string l[k]) (by rw [List.getElem_append_left hk]; rfl)).1
  rw [Nat.mul_one] at this
  exact ⟨g', h1, k3, this⟩

/-- In the midst of a list that grows. -/
structure Grow (wo : World) (v : Value) (l : List ByteArray) (y : ByteArray) (k : Nat) (u : Value) (wr : World) : Prop where
  row : RowOf wr 9 1 encS u (l ++ List.replicate k y)
  base : ReadsT wr v l
  own : ∀ b, OwnB u b → OwnB v b ∨ wo.heap.size ≤ b
  keep : Keeps (OwnB v) wo wr
theorem Grow.next {wo wr w5 : World} {v u u5 : Value} {l : List ByteArray} {y : ByteArray} {k : Nat} {o : Obj} (h : Grow wo v l y k u wr) (hr : RowOf w5 9 1 encS u5 ((l ++ List.replicate k y) ++ [y]))
    (ha : (u5.ownBlock = u.ownBlock ∧ Keeps (OwnB u) (wr.alloc o) w5) ∨ (u5.ownBlock = some (wr.alloc o).heap.size ∧ Keeps Nil (wr.alloc o) w5)) : Grow wo v l y (k + 1) u5 w5 := by
  have hr' : RowOf w5 9 1 encS u5 (l ++ List.replicate (k + 1) y) := by
    rw [List.replicate_succ', ← List.append_assoc]; exact hr
  have hz := h.keep.size
  rcases ha with ⟨h1, h2⟩ | ⟨h1, h2⟩
  · have hkk : Keeps (OwnB v) wo w5 := (h.keep.alloc o).trans h2 fun b hb hl => by
      rcases h.own b hb with e | e
      · exact e
      · omega
    refine ⟨hr', ?_, fun b hb => h.own b (by unfold OwnB at hb ⊢; rw [← h1]; exact hb), hkk⟩
    by_cases e : u5.ownBlock = v.ownBlock
    · exact ReadsT.of_prefix hr' e h.base
    · exact (h.base.keeps ((Keeps.refl Nil wr).alloc o) (fun _ _ h => h)).keeps h2 fun b hb hb' => e (by
        unfold OwnB at hb hb'
        rw [h1, hb', hb])
  · refine ⟨hr', (h.base.keeps ((Keeps.refl Nil wr).alloc o) (fun _ _ h => h)).keeps h2 (fun _ _ h => h), fun b hb => ?_, (h.keep.alloc o).trans h2 (fun _ h _ => h.elim)⟩
    unfold OwnB at hb
    rw [h1] at hb
    injection hb with hb
    rw [World.size_alloc] at hb
    exact .inr (by omega)

/-- Behind n lists that are grown. -/
structure Long (w1 : World) (N : Nat) (V : Nat → Value) (bs : Nat → List ByteArray) (m : ByteArray) (n : Nat) (Xs : List SV) (v : Value) (wr : World) : Prop where
  len : Xs.length = n
  row : RowOf wr 50 1 encV v Xs
  new : ∀ b, OwnB v b → w1.heap.size ≤ b
  rest : ∀ j, n ≤ j → j < N → RowOf wr 9 1 encS (V j) (bs j)
  base : ∀ j, j < N → ReadsT wr (V j) (bs j)
  ext : ∀ j p, j < n → Xs[j]? = some p → RowOf wr 9 1 encS (sv p) (bs j ++ List.replicate 20 (newB m j)) ∧ ∀ b, OwnB (sv p) b → OwnB (V j) b ∨ w1.heap.size ≤ b
  keep : Keeps (AllB N V) w1 wr
theorem Long.next {w1 wo wr w6 : World} {N : Nat} {V : Nat → Value} {bs : Nat → List ByteArray} {m : ByteArray} {n : Nat} {Xs : List SV} {v v6 : Value} {p : SV} {o : Obj} (h : Long w1 N V bs m n Xs v wo) (hn : n < N)
    (hV : ∀ j, j < N → ∀ b, OwnB (V j) b → b < w1.heap.size) (hap : ∀ i j, i < N → j < N → i ≠ j → ∀ b, OwnB (V i) b → ¬ OwnB (V j) b)
    (hg : Grow wo (V n) (bs n) (newB m n) 20 (sv p) wr) (hr : RowOf w6 50 1 encV v6 (Xs ++ [p])) (hk : Keeps (OwnB v) (wr.alloc o) w6) (hv : v6.ownBlock = v.ownBlock ∨ v6.ownBlock = some (wr.alloc o).heap.size) :
    Long w1 N V bs m (n + 1) (Xs ++ [p]) v6 w6 := by
  have z1 := h.keep.size
  have z2 := hg.keep.size
  have kA : Keeps Nil wr (wr.alloc o) := (Keeps.refl _ _).alloc o
  have rowv : RowOf (wr.alloc o) 50 1 encV v Xs := (h.row.keeps hg.keep (fun b hb hb' => by
    have := h.new b hb
    have := hV n hn b hb'
    omega)).keeps kA (fun _ _ h => h)
  have str : ∀ (x : Value) (l : List ByteArray), RowOf wo 9 1 encS x l → (∀ b, OwnB x b → ¬ OwnB (V n) b) → RowOf w6 9 1 encS x l := fun x l hx hd =>
    ((hx.keeps hg.keep hd).keeps kA (fun _ _ h => h)).keeps hk fun b hb => ((hx.keeps hg.keep hd).keeps kA (fun _ _ h => h)).ne_row rowv (by decide) b hb
  have vlow : ∀ b, OwnB v b → w1.heap.size ≤ b := h.new
  have kAll : Keeps (AllB N V) w1 w6 := ((h.keep.trans hg.keep fun b hb _ => ⟨n, hn, hb⟩).alloc o).trans hk fun b hb hl => by
    have := h.new b hb
    omega
  refine ⟨by rw [List.length_append, h.len]; rfl, hr, fun b hb => ?_, fun j h1 h2 => str _ _ (h.rest j (by omega) h2) (hap j n h2 hn (by omega)), fun j hj => ?_, fun j q hj hq => ?_, kAll⟩
  · unfold OwnB at hb
    rcases hv with e | e <;> rw [e] at hb
    · exact h.new b hb
    · injection hb with hb
      rw [World.size_alloc] at hb
      omega
  · have hd : ∀ b, OwnB (V j) b → ¬ OwnB v b := fun b hb hb' => by
      have := h.new b hb'
      have := hV j hj b hb
      omega
    by_cases e : j = n
    · subst e
      exact (hg.base.keeps kA (fun _ _ h => h)).keeps hk hd
    · exact (((h.base j hj).keeps hg.keep (hap j n hj hn e)).keeps kA (fun _ _ h => h)).keeps hk hd
  · by_cases e : j = n
    · subst e
      rw [List.getElem?_append_right (by rw [h.len]; exact Nat.le_refl _), h.len, Nat.sub_self] at hq
      simp only [List.getElem?_cons_zero, Option.some.injEq] at hq
      subst hq
      refine ⟨(hg.row.keeps kA (fun _ _ h => h)).keeps hk fun b hb => (hg.row.keeps kA (fun _ _ h => h)).ne_row rowv (by decide) b hb, fun b hb => ?_⟩
      rcases hg.own b hb with e | e
      · exact .inl e
      · exact .inr (by omega)
    · have hj' : j < n := by omega
      rw [List.getElem?_append_left (by rw [h.len]; exact hj')] at hq
      obtain ⟨q1, q2⟩ := h.ext j q hj' hq
      refine ⟨str _ _ q1 fun b hb hb' => ?_, q2⟩
      rcases q2 b hb with e' | e'
      · exact hap j n (by omega) hn e b e' hb'
      · have := hV n hn b hb'
        omega

set_option maxRecDepth 100000 in
set_option maxHeartbeats 4000000 in
theorem ref_apart {w : World} {N g : Nat} {V : Nat → Value} {L : Nat → List ByteArray} {cs : Array Value} (hL : ListsAt w N g V L cs) (hN : N ≤ 1000000) (cap : Nat) :
    Calls Try.prog 36 #[.slice (some ⟨g, 0, none⟩) N cap] w fun e w' => e = .returned (.bool true) ∧ Keeps (AllB N V) w w' := by
  have hgl := hL.blk.lt
  have hcell : ∀ k, k < N → w.cell? ⟨g, k, none⟩ = some (V k) := fun k hk => (hL.blk.cell k).trans (hL.at_ k hk)
  have hng : ¬ AllB N V g := by
    rintro ⟨k, hk, hb⟩
    exact (hL.row k hk).ne_blk hL.blk (by decide) hb
  go_enter Try.func36, Try.ntmps36
  go_wp2
  go_loopw [4] (fun i wr => ∃ n : Nat, n ≤ N ∧ i = .int .i64 n ∧ Mark w N V marksB L n wr) (fun i _ => N - (intOf i).toNat)
  case atStart => exact ⟨0, Nat.zero_le _, rfl, ⟨fun j hj => hL.row j hj, Keeps.refl _ _⟩⟩
  case round =>
    obtain ⟨n, hn, rfl, hM⟩ := hrel
    obtain ⟨wo, rfl⟩ : ∃ wo : World, wo = wr := ⟨_, rfl⟩
    by_cases hlt : n < N
    · have hlt' : (n : Int) < (N : Int) := by omega
      have hc0 := (hM.keep.cell (p := ⟨g, n, none⟩) hgl hng).trans (hcell n hlt)
      have hrow := hM.row n hlt
      have hm : mark1 marksB L n n = L n := by unfold mark1; rw [if_neg (Nat.lt_irrefl n)]
      rw [hm] at hrow
      have hln := hL.len n hlt
      have hgV : ¬ OwnB (V n) g := fun h => hng ⟨n, hlt, h⟩
      have hgo : g < wo.heap.size := Nat.lt_of_lt_of_le hgl hM.keep.size
      obtain ⟨A, c, hv, hc, hA⟩ := hrow.form encS_enc
      generalize hvv : V n = v at *
      generalize hll : L n = l at *
      have Hvv := Lib.hid hvv
      have Hll := Lib.hid hll
      subst hv
      clear hvv hll hA hm
      go_wp2
      go_loopw [5] (fun i wr => ∃ k : Nat, k ≤ l.length ∧ i = .int .i64 k ∧ Mark2 wo (.slice A l.length c) (.slice A l.length c) l (wasB marksB n) k wr) (fun i _ => l.length - (intOf i).toNat)
      case atStart => exact ⟨0, Nat.zero_le _, rfl, ⟨by simpa using hrow, Keeps.refl _ _⟩⟩
      case round =>
        obtain ⟨k, hk, rfl, hR⟩ := hrel
        have hc1 := (hR.keep.cell (p := ⟨g, n, none⟩) hgo hgV).trans hc0
        by_cases hkl : k < l.length
        · have hkl' : (k : Int) < (l.length : Int) := by omega
          have hcur := hR.row
          have hlc : (List.replicate k (wasB marksB n) ++ l.drop k).length = l.length := by simp; omega
          obtain ⟨A', c', hv', _, hA'⟩ := hcur.form encS_enc
          obtain ⟨b, hb, hbo, hbl, hcell0, _⟩ := hA' k (by omega)
          injection hv' with hv1 hv2 hv3
          subst hv3
          rw [hb] at hv1
          subst hv1
          subst hb
          have hst := (hcell0 _ rfl)
          rw [Nat.mul_one] at hst
          obtain ⟨hst1, hst2⟩ := hst
          clear hA' hcell0 hv2
          generalize hq : (List.replicate k (wasB marksB n) ++ l.drop k)[k]'(by omega) = q at hst1
          clear hq
          have k0 : (0 : Int) ≤ (k : Int) := by omega
          have n0 : (0 : Int) ≤ (n : Int) := by omega
          obtain ⟨m, hm⟩ : ∃ m : Nat, n % 26 = m := ⟨_, rfl⟩
          have m1 : (m : Int) < 26 := by omega
          have m2 : (0 : Int) ≤ (m : Int) := by omega
          have e1 : (n : Int).tmod 26 = (m : Int) := by rw [Int.tmod_eq_emod_of_nonneg n0]; omega
          have e2 : IntKind.i64.wrap ((m : Int) + 1) = (m : Int) + 1 := IntWalk.i64_in _ (by omega)
          have m3 : (m : Int) ≤ (m : Int) + 1 := by omega
          have m4 : (m : Int) + 1 ≤ 26 := by omega
          have m5 : ((m : Int) + 1).toNat = m + 1 := by omega
          have Hm := Lib.hid hm
          clear hm
          have hadd : ∀ W : World, (Op.stringOp .add (⟨#[119, 97, 115]⟩ : ByteArray) ((⟨#[97, 98, 99, 100, 101, 102, 103, 104, 105, 106, 107, 108, 109, 110, 111, 112, 113, 114, 115, 116, 117, 118, 119, 120, 121, 122]⟩ : ByteArray).extract m (m + 1))).run Try.prog W = .ok (.string (wasB marksB n)) W := fun W => by
            rw [run_string_add_sum W _ _ (by rw [ByteArray.size_extract]; show 3 + _ ≤ _; omega)]
            unfold wasB marksB
            rw [Hm.out]
          go_wp2
          go_still_tail 14, (by kernel_rfl)
          change wpList _ _ _ _ _ wr.drew
          have hst3 : wr.drew.cell? ⟨b, k, none⟩ = some (.string q) := hst1
          have hst4 : wr.drew.frozen? ⟨b, k, none⟩ = false := hst2
          have hcur2 : RowOf wr.drew 9 1 encS (.slice (some ⟨b, 0, none⟩) l.length c) (List.replicate k (wasB marksB n) ++ l.drop k) := hcur
          have hkk : Keeps (OwnB (.slice (some ⟨b, 0, none⟩) l.length c)) wo wr.drew := hR.keep.drew
          clear hst1 hst2 hcur e1 e2 m5 hadd
          generalize wr.drew = w2 at *
          go_wp2
          go_roundw
          case rel =>
            refine ⟨k + 1, by omega, by go_num, ?_, ?_⟩
            · have h := (hcur2.set encS_enc hbo (k := k) (j := 0) (by omega) (by omega) (u := .string (wasB marksB n)) (x := wasB marksB n) rfl).1
              rw [rep_set l _ k hkl, Nat.mul_one] at h
              exact h
            · exact hkk.setCell (p := ⟨b, k, none⟩) (.inl hbo) _
          case measure => simp [intOf]; omega
        · have hke : k = l.length := by omega
          subst hke
          go_wp2
          go_roundw
          case rel =>
            refine ⟨n + 1, by omega, by go_num, fun j hj => ?_, hM.keep.trans hR.keep fun b hb _ => ⟨n, hlt, by rw [Hvv.out]; exact hb⟩⟩
            by_cases hjn : j = n
            · subst hjn
              have h := hR.row
              rw [List.drop_length, List.append_nil] at h
              unfold mark1
              rw [if_pos (Nat.lt_succ_self j), Hvv.out, Hll.out]
              exact h
            · have h := (hM.row j hj).keeps hR.keep (fun b hb hb' => hL.apart j n hj hlt hjn b hb (by rw [Hvv.out]; exact hb'))
              unfold mark1 at h ⊢
              by_cases hjl : j < n
              · rw [if_pos (by omega)]; rw [if_pos hjl] at h; exact h
              · rw [if_neg (by omega)]; rw [if_neg hjl] at h; exact h
          case measure => simp [intOf]; omega
    · have hne : n = N := by omega
      subst hne
      have hN' : n ≤ 1000000 := by omega
      clear hlt hN
      obtain ⟨w1, hw1⟩ : ∃ w1, w1 = wo := ⟨_, rfl⟩
      subst hw1
      have hbs : ∀ j, j < n → RowOf w1 9 1 encS (V j) (List.replicate (L j).length (wasB marksB j)) := fun j hj => by
        have h := hM.row j hj
        unfold mark1 at h
        rw [if_pos hj] at h
        exact h
      have hVlt : ∀ j, j < n → ∀ b, OwnB (V j) b → b < w1.heap.size := fun j hj b hb => (hbs j hj).lt b hb
      have hkM := hM.keep
      have hgl1 : g < w1.heap.size := Nat.lt_of_lt_of_le hgl hkM.size
      have hcell1 : ∀ k, k < n → w1.cell? ⟨g, k, none⟩ = some (V k) := fun k hk => (hkM.cell (p := ⟨g, k, none⟩) hgl hng).trans (hcell k hk)
      have hap := hL.apart
      have hlen := hL.len
      clear hM hcell hL
      have Hcell := Lib.hid hcell1
      clear hcell1
      go_wp2
      go_loopw [6, 7] (fun v i wr => ∃ (k : Nat) (Xs : List SV), k ≤ n ∧ i = .int .i64 k ∧ Long w1 n V (fun j => List.replicate (L j).length (wasB marksB j)) marksB k Xs v wr) (fun _ i _ => n - (intOf i).toNat)
      case atStart => exact ⟨0, [], Nat.zero_le _, rfl, ⟨rfl, RowOf.nil _ _ _ _, (fun b hb => by cases hb), fun j _ hj => hbs j hj, fun j hj => ReadsT.of_row (hbs j hj), (fun j p hj => by omega), Keeps.refl _ _⟩⟩
      case round =>
        obtain ⟨k, Xs, hk, rfl, hG⟩ := hrel
        obtain ⟨wo, rfl⟩ : ∃ wo : World, wo = wr := ⟨_, rfl⟩
        by_cases hlt : k < n
        · have hlt' : (k : Int) < (n : Int) := by omega
          have hc0 := (hG.keep.cell (p := ⟨g, k, none⟩) hgl1 hng).trans (Hcell.out k hlt)
          have hrow := hG.rest k (Nat.le_refl _) hlt
          have hreads := hG.base k hlt
          have hln := hlen k hlt
          obtain ⟨A, c, hv, hc, _⟩ := hrow.form encS_enc
          rw [List.length_replicate] at hv
          have Hv := Lib.hid hv
          rw [hv] at hc0
          clear hv
          go_wp2
          go_loopw [8, 9] (fun u i wr => ∃ (q : Nat) (PA : Option Addr) (pz pc : Nat), q ≤ 20 ∧ i = .int .i64 q ∧ u = .slice PA pz pc ∧ Grow wo (V k) (List.replicate (L k).length (wasB marksB k)) (newB marksB k) q (.slice PA pz pc) wr) (fun _ i _ => 20 - (intOf i).toNat)
          case atStart => exact ⟨0, A, (L k).length, c, Nat.zero_le _, rfl, rfl, ⟨by rw [List.replicate_zero, List.append_nil]; rw [← Hv.out]; exact hrow, hreads, fun b hb => .inl (by rw [Hv.out]; exact hb), Keeps.refl _ _⟩⟩
          case round =>
            obtain ⟨q, PA, pz, pc, hq, rfl, rfl, hR⟩ := hrel
            by_cases hq20 : q < 20
            · have hq' : (q : Int) < 20 := by omega
              have k0 : (0 : Int) ≤ (k : Int) := by omega
              obtain ⟨m, hm⟩ : ∃ m : Nat, k % 26 = m := ⟨_, rfl⟩
              have m1 : (m : Int) < 26 := by omega
              have m2 : (0 : Int) ≤ (m : Int) := by omega
              have e0 : (k : Int) % 26 = (m : Int) := by omega
              have m3 : (m : Int) ≤ (m : Int) + 1 := by omega
              have m4 : (m : Int) + 1 ≤ 26 := by omega
              have Hm := Lib.hid hm
              clear hm
              have hadd : ∀ W : World, (Op.stringOp .add (⟨#[110, 101, 119]⟩ : ByteArray) ((⟨#[97, 98, 99, 100, 101, 102, 103, 104, 105, 106, 107, 108, 109, 110, 111, 112, 113, 114, 115, 116, 117, 118, 119, 120, 121, 122]⟩ : ByteArray).extract m (m + 1))).run Try.prog W = .ok (.string (newB marksB k)) W := fun W => by
                rw [run_string_add_sum W _ _ (by rw [ByteArray.size_extract]; show 3 + _ ≤ _; omega)]
                unfold newB marksB
                rw [Hm.out]
              have hbl : Blk (wr.alloc (.cells #[.string (newB marksB k)] 9)) wr.heap.size 9 (encS (newB marksB k)).toArray := Blk.new wr _ _
              have hll : (List.replicate (L k).length (wasB marksB k) ++ List.replicate q (newB marksB k)).length ≤ 1073741844 := by rw [List.length_append, List.length_replicate, List.length_replicate]; omega
              go_wp2_with (at_builtin; refine wpList_row_append2 rfl (.tmp 56) (.tmp 65) rfl elS encS_enc (hR.row.keeps ((Keeps.refl Nil wr).alloc _) (fun _ _ h => h)) rfl wr.heap.size 1 rfl (newB marksB k) hbl (by omega) (by omega) ?_; intro v5 w5 hr5 hk5 hv5; obtain ⟨g5, c5, rfl⟩ := hv5)
              go_roundw
              case rel =>
                have hl5 : (List.replicate (L k).length (wasB marksB k) ++ List.replicate q (newB marksB k)).length + 1 = (L k).length + q + 1 := by simp
                rw [hl5] at hr5 hk5
                exact ⟨q + 1, some ⟨g5, 0, none⟩, _, c5, by omega, by go_num, rfl, hR.next hr5 hk5⟩
              case measure => simp [intOf]; omega
            · have hqe : q = 20 := by omega
              subst hqe
              have hbl : Blk (wr.alloc (.cells #[.slice PA pz pc] 50)) wr.heap.size 50 (encV (PA, pz, pc)).toArray := Blk.new wr _ _
              have rowX : RowOf wr 50 1 encV _ Xs := hG.row.keeps hR.keep (fun b hb hb' => by
                have := hG.new b hb
                have := hVlt k hlt b hb'
                omega)
              have hXl := hG.len
              go_wp2_with (at_builtin; refine wpList_row_append rfl (.tmp 67) (.tmp 69) rfl elV encV_enc (rowX.keeps ((Keeps.refl Nil wr).alloc _) (fun _ _ h => h)) rfl wr.heap.size 1 rfl (PA, pz, pc) hbl (by omega) (by omega) ?_; intro v6 w6 hr6 hk6 hv6)
              go_roundw
              case rel => exact ⟨k + 1, Xs ++ [(PA, pz, pc)], by omega, by go_num, hG.next hlt hVlt hap hR hr6 hk6 hv6⟩
              case measure => simp [intOf]; omega
        · have hke : k = n := by omega
          subst hke
          have hXl := hG.len
          have hGk := hkM.trans hG.keep (fun b hb _ => hb)
          have hcell2 : ∀ j, j < k → wo.cell? ⟨g, j, none⟩ = some (V j) := fun j hj => (hG.keep.cell (p := ⟨g, j, none⟩) hgl1 hng).trans (Hcell.out j hj)
          have Hcell2 := Lib.hid hcell2
          obtain ⟨AX, cX, hvX, _, hX⟩ := hG.row.form encV_enc
          subst hvX
          have HX := Lib.hid hX
          clear hcell2 hX Hcell hbs
          go_wp2
          go_loop [10] (fun i => ∃ j : Nat, j ≤ k ∧ i = .int .i64 j) (fun i => k - (intOf i).toNat)
          case atStart => exact ⟨0, Nat.zero_le _, rfl⟩
          case round =>
            obtain ⟨j, hj, rfl⟩ := hrel
            by_cases hjk : j < k
            · have hjk' : (j : Int) < (k : Int) := by omega
              obtain ⟨gX, rfl, _, _, hXc, _⟩ := HX.out j (by omega)
              have hx0 := (hXc _ rfl).1
              rw [Nat.mul_one] at hx0
              obtain ⟨hrX, _⟩ := hG.ext j Xs[j] hjk (List.getElem?_eq_getElem (by omega))
              have hrV := hG.base j hjk
              have hv0 := Hcell2.out j hjk
              have hlj := hlen j hjk
              obtain ⟨A', c', hp', _, hA'⟩ := hrX.form encS_enc
              obtain ⟨A2, c2, hV2, _, hA2⟩ := hrV
              rw [hp'] at hx0
              rw [hV2] at hv0
              have hl1 : (List.replicate (L j).length (wasB marksB j) ++ List.replicate 20 (newB marksB j)).length = (L j).length + 20 := by simp
              have hl2 : (List.replicate (L j).length (wasB marksB j)).length = (L j).length := by simp
              rw [hl1] at hx0
              rw [hl2] at hv0
              have hreadX : ∀ q, q < (L j).length + 20 → ∃ b, A' = some ⟨b, 0, none⟩ ∧ wo.cell? ⟨b, q, none⟩ = some (.string (if q < (L j).length then wasB marksB j else newB marksB j)) := fun q hq => by
                obtain ⟨b, h1, _, _, h4, _⟩ := hA' q (by rw [hl1]; exact hq)
                have h5 := (h4 _ rfl).1
                rw [Nat.mul_one] at h5
                refine ⟨b, h1, h5.trans ?_⟩
                by_cases hql : q < (L j).length
                · rw [List.getElem_append_left (by rw [hl2]; exact hql), if_pos hql, List.getElem_replicate]
                · rw [List.getElem_append_right (by rw [hl2]; omega), if_neg hql, List.getElem_replicate]
              have hreadV : ∀ q, q < (L j).length → ∃ b, A2 = some ⟨b, 0, none⟩ ∧ wo.cell? ⟨b, q, none⟩ = some (.string (wasB marksB j)) := fun q hq => by
                obtain ⟨b, h1, _, h4⟩ := hA2 q (by rw [hl2]; exact hq)
                rw [List.getElem_replicate] at h4
                exact ⟨b, h1, h4⟩
              have k0 : (0 : Int) ≤ (j : Int) := by omega
              obtain ⟨m, hm⟩ : ∃ m : Nat, j % 26 = m := ⟨_, rfl⟩
              have m1 : (m : Int) < 26 := by omega
              have m2 : (0 : Int) ≤ (m : Int) := by omega
              have e0 : (j : Int) % 26 = (m : Int) := by omega
              have m3 : (m : Int) ≤ (m : Int) + 1 := by omega
              have m4 : (m : Int) + 1 ≤ 26 := by omega
              have hadd1 : ∀ W : World, (Op.stringOp .add (⟨#[119, 97, 115]⟩ : ByteArray) ((⟨#[97, 98, 99, 100, 101, 102, 103, 104, 105, 106, 107, 108, 109, 110, 111, 112, 113, 114, 115, 116, 117, 118, 119, 120, 121, 122]⟩ : ByteArray).extract m (m + 1))).run Try.prog W = .ok (.string (wasB marksB j)) W := fun W => by
                rw [run_string_add_sum W _ _ (by rw [ByteArray.size_extract]; show 3 + _ ≤ _; omega)]
                unfold wasB marksB
                rw [hm]
              have hadd2 : ∀ W : World, (Op.stringOp .add (⟨#[110, 101, 119]⟩ : ByteArray) ((⟨#[97, 98, 99, 100, 101, 102, 103, 104, 105, 106, 107, 108, 109, 110, 111, 112, 113, 114, 115, 116, 117, 118, 119, 120, 121, 122]⟩ : ByteArray).extract m (m + 1))).run Try.prog W = .ok (.string (newB marksB j)) W := fun W => by
                rw [run_string_add_sum W _ _ (by rw [ByteArray.size_extract]; show 3 + _ ≤ _; omega)]
                unfold newB marksB
                rw [hm]
              have beq1 := texts_beq (wasB marksB j)
              have beq2 := texts_beq (newB marksB j)
              have HRX := Lib.hid hreadX
              have HRV := Lib.hid hreadV
              have HGk := Lib.hid hGk
              clear hA' hA2 hl1 hl2 hp' hV2 hXc hrX hreadX hreadV hm hGk hG
              generalize wasB marksB j = was at *
              generalize newB marksB j = new at *
              go_wp2
              go_loop [11] (fun i => ∃ q : Nat, q ≤ (L j).length + 20 ∧ i = .int .i64 q) (fun i => (L j).length + 20 - (intOf i).toNat)
              case atStart => exact ⟨0, Nat.zero_le _, rfl⟩
              case round =>
                obtain ⟨q, hq, rfl⟩ := hrel
                by_cases hql : q < (L j).length
                · obtain ⟨b1, rfl, h1⟩ := HRX.out q (by omega)
                  obtain ⟨b2, rfl, h2⟩ := HRV.out q hql
                  rw [if_pos hql] at h1
                  have hq1 : (q : Int) < (L j).length := by omega
                  have hq2 : (q : Int) < (L j).length + 20 := by omega
                  go_wp2
                  go_round
                  case rel => exact ⟨q + 1, by omega, by go_num⟩
                  case measure => simp [intOf]; omega
                · by_cases hqe : q < (L j).length + 20
                  · obtain ⟨b1, rfl, h1⟩ := HRX.out q hqe
                    rw [if_neg hql] at h1
                    have hq1 : ¬ (q : Int) < (L j).length := by omega
                    have hq2 : (q : Int) < (L j).length + 20 := by omega
                    have hq3 : ((L j).length : Int) ≤ q := by omega
                    go_wp2
                    go_round
                    case rel => exact ⟨q + 1, by omega, by go_num⟩
                    case measure => simp [intOf]; omega
                  · have hq2 : ¬ (q : Int) < (L j).length + 20 := by omega
                    go_wp2
                    go_round
                    case rel => exact ⟨j + 1, by omega, by go_num⟩
                    case measure => simp [intOf]; omega
            · have hje : ¬ (j : Int) < (k : Int) := by omega
              go_wp2
              go_ret
              exact ⟨rfl, hGk⟩
end Go.Proofs.Ytmjlbpgngahgmaa
