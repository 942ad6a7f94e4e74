/- Restart: what isn't sure is lost by chance. No conditions but the counters' bounds. -/
import Derived.Test.YtmjlbpgngahgmaaVfs4
namespace Go.Proofs.Ytmjlbpgngahgmaa
open Go.RowKit Go.MapKept

/-- A number that looks like chance. -/
def mixA (a b : Int) : Int := IntKind.u64.wrap (a + IntKind.u64.wrap (b * 11400714819323198485))
def mixB (x : Int) : Int := IntKind.u64.wrap (bits BinOp.xor IntKind.u64 x (x / 1073741824) * 13787848793156543929)
def mixC (x : Int) : Int := IntKind.u64.wrap (bits BinOp.xor IntKind.u64 x (x / 134217728) * 10723151780598845931)
def mixD (x : Int) : Int := bits BinOp.xor IntKind.u64 x (x / 2147483648)
def mixI (a b : Int) : Int := mixD (mixC (mixB (mixA a b)))

theorem u64_range (x : Int) : 0 ≤ IntKind.u64.wrap x ∧ IntKind.u64.wrap x < 18446744073709551616 := by
  rw [IntKind.wrap_u64]; omega
theorem mixI_range (a b : Int) : 0 ≤ mixI a b ∧ mixI a b < 18446744073709551616 := by
  unfold mixI mixD
  exact u64_range _

set_option maxHeartbeats 1000000 in
theorem vfs_mix (a b : Int) (w : World) :
    Calls Try.prog 52 #[.int .u64 a, .int .u64 b] w fun e w' => e = .returned (.int .u64 (mixI a b)) ∧ w = w' := by
  go_enter Try.func52, Try.ntmps52
  go_wp2
  go_ret
  exact ⟨rfl, rfl⟩

set_option maxHeartbeats 1000000 in
theorem vfs_next {w : World} {b c : Nat} {i L : Int} (hi : Blk w b 3 #[.int .i64 i]) (hl : Blk w c 3 #[.int .i64 L]) (hne : b ≠ c) (h0 : 0 ≤ i) (h1 : i ≤ 8589934592) :
    Calls Try.prog 51 #[.pointer (some ⟨b, 0, none⟩), .pointer (some ⟨c, 0, none⟩)] w fun e w' => e = .returned (.int .u64 (mixI (IntKind.u64.wrap L) (i + 1))) ∧ Blk w' b 3 #[.int .i64 (i + 1)] ∧ Keeps (One b) w w' := by
  have c0 : w.cell? ⟨b, 0, none⟩ = some (.int .i64 i) := hi.cell 0
  have f0 := hi.frozen 0
  have hb := hi.set_ 0 (.int .i64 (i + 1))
  have hK : Keeps (One b) w (w.setCell ⟨b, 0, none⟩ (.int .i64 (i + 1))) := (Keeps.refl (One b) w).setCell (p := ⟨b, 0, none⟩) (.inl rfl) _
  have c1 : (w.setCell ⟨b, 0, none⟩ (.int .i64 (i + 1))).cell? ⟨c, 0, none⟩ = some (.int .i64 L) := (hl.far (p := ⟨b, 0, none⟩) (fun e => hne e.symm) _).cell 0
  have hw : IntKind.u64.wrap (i + 1) = i + 1 := by rw [IntKind.wrap_u64]; omega
  have Hw := Lib.hid hw
  clear hw
  go_enter Try.func51, Try.ntmps51
  go_wp2_with (go_at_call 52; refine (vfs_mix _ _ _).mono ?_; rintro e w1 ⟨rfl, rfl⟩)
  go_ret
  refine ⟨?_, hb, hK⟩
  first | rfl | (rw [Hw.out]; rfl)

/-- One name is kept, or lost. -/
def keepName (d : DK) (L : Int) (s : Int × (ByteArray → Option Int)) (n : ByteArray) : Int × (ByteArray → Option Int) :=
  let i := if d.kept n ≠ d.names n then s.1 + 1 else s.1
  let r := if d.kept n ≠ d.names n ∧ mixI (IntKind.u64.wrap L) i % 2 = 1 then d.names n else d.kept n
  (i, match r with | some v => upd s.2 n v | none => s.2)

/-- One file is kept, or its beginning. -/
def keepFile (d : DK) (nm : ByteArray → Option Int) (L : Int) (s : Int × (Int → Option (ByteArray × Int))) (n : ByteArray) : Int × (Int → Option (ByteArray × Int)) :=
  let k := (nm n).getD 0
  let f := (d.files k).getD (⟨#[]⟩, 0)
  if (s.2 k).isSome then s else
    if f.1.size - f.2 > 0 then
      let data := f.1.extract 0 (f.2 + mixI (IntKind.u64.wrap L) (s.1 + 1) % (f.1.size - f.2 + 1)).toNat
      (s.1 + 1, upd s.2 k (data, data.size))
    else (s.1, upd s.2 k (f.1, f.1.size))

def orF (f g : ByteArray → Option Int) : ByteArray → Option Int := fun k => match f k with | some v => some v | none => g k

/-- What a restart comes to. -/
def DK.Restarts (d : DK) (L : Int) (d' : DK) : Prop :=
  ∃ l1 l2 : List ByteArray, KeyList (orF d.kept d.names) l1 ∧ KeyList (l1.foldl (keepName d L) (0, fun _ => none)).2 l2 ∧
    d' = { d with files := (l2.foldl (keepFile d (l1.foldl (keepName d L) (0, fun _ => none)).2 L) ((l1.foldl (keepName d L) (0, fun _ => none)).1, fun _ => none)).2,
                  names := (l1.foldl (keepName d L) (0, fun _ => none)).2, kept := (l1.foldl (keepName d L) (0, fun _ => none)).2, down := false, armed := -1 }

/-- Behind k names. -/
def names1 (d : DK) (L : Int) (l : List ByteArray) (k : Nat) : Int × (ByteArray → Option Int) := (l.take k).foldl (keepName d L) (0, fun _ => none)
theorem names1_succ (d : DK) (L : Int) (l : List ByteArray) (k : Nat) (h : k < l.length) : names1 d L l (k + 1) = keepName d L (names1 d L l k) l[k] := by
  unfold names1
  rw [List.take_succ_eq_append_getElem h, List.foldl_append]
  rfl
/-- What holds behind k names. -/
structure Rel1 (d : DK) (L : Int) (l : List ByteArray) (bi nn : Nat) (w0 : World) (k : Nat) (wr : World) : Prop where
  blk : Blk wr bi 3 #[.int .i64 (names1 d L l k).1]
  map : MapF wr nn Value.string (Value.int .i64) k (names1 d L l k).2
  lo : 0 ≤ (names1 d L l k).1
  hi : (names1 d L l k).1 ≤ k
  keep : Keeps (Two bi nn) w0 wr
theorem Rel1.next {d : DK} {L : Int} {l : List ByteArray} {bi nn : Nat} {w0 wr w' : World} {k : Nat} {i : Int} {m : ByteArray → Option Int} (h : Rel1 d L l bi nn w0 k wr) (hk : k < l.length)
    (he : keepName d L (names1 d L l k) l[k] = (i, m)) (hb : Blk w' bi 3 #[.int .i64 i]) (hm : MapF w' nn Value.string (Value.int .i64) (k + 1) m) (h0 : 0 ≤ i) (h1 : i ≤ k + 1) (hK : Keeps (Two bi nn) wr w') :
    Rel1 d L l bi nn w0 (k + 1) w' := by
  have e := (names1_succ d L l k hk).trans he
  exact ⟨by rw [e]; exact hb, by rw [e]; exact hm, by rw [e]; exact h0, by rw [e]; simpa using h1, h.keep.same hK⟩

/-- Behind k files. -/
def files2 (d : DK) (m : ByteArray → Option Int) (L i : Int) (l : List ByteArray) (k : Nat) : Int × (Int → Option (ByteArray × Int)) := (l.take k).foldl (keepFile d m L) (i, fun _ => none)
theorem files2_succ (d : DK) (m : ByteArray → Option Int) (L i : Int) (l : List ByteArray) (k : Nat) (h : k < l.length) : files2 d m L i l (k + 1) = keepFile d m L (files2 d m L i l k) l[k] := by
  unfold files2
  rw [List.take_succ_eq_append_getElem h, List.foldl_append]
  rfl
/-- What holds behind k files. -/
structure Rel2 (d : DK) (m : ByteArray → Option Int) (L i : Int) (l : List ByteArray) (bi ri : Nat) (w0 : World) (k : Nat) (wr : World) : Prop where
  blk : Blk wr bi 3 #[.int .i64 (files2 d m L i l k).1]
  map : MapF wr ri (Value.int .i64) fileV k (files2 d m L i l k).2
  lo : 0 ≤ (files2 d m L i l k).1
  hi : (files2 d m L i l k).1 ≤ i + k
  keep : Keeps (Two bi ri) w0 wr
theorem Rel2.next {d : DK} {m : ByteArray → Option Int} {L i : Int} {l : List ByteArray} {bi ri : Nat} {w0 wr w' : World} {k : Nat} {j : Int} {f : Int → Option (ByteArray × Int)} (h : Rel2 d m L i l bi ri w0 k wr) (hk : k < l.length)
    (he : keepFile d m L (files2 d m L i l k) l[k] = (j, f)) (hb : Blk w' bi 3 #[.int .i64 j]) (hm : MapF w' ri (Value.int .i64) fileV (k + 1) f) (h0 : 0 ≤ j) (h1 : j ≤ i + (k + 1)) (hK : Keeps (Two bi ri) wr w') :
    Rel2 d m L i l bi ri w0 (k + 1) w' := by
  have e := (files2_succ d m L i l k hk).trans he
  exact ⟨by rw [e]; exact hb, by rw [e]; exact hm, by rw [e]; exact h0, by rw [e]; simpa using h1, h.keep.same hK⟩

theorem keepName_snd (d : DK) (L : Int) (s : Int × (ByteArray → Option Int)) (y : ByteArray) : (keepName d L s y).2 = s.2 ∨ ∃ v, (keepName d L s y).2 = upd s.2 y v := by
  unfold keepName
  simp only
  generalize (if d.kept y ≠ d.names y ∧ mixI (IntKind.u64.wrap L) (if d.kept y ≠ d.names y then s.1 + 1 else s.1) % 2 = 1 then d.names y else d.kept y) = r
  cases r with
  | none => exact .inl rfl
  | some v => exact .inr ⟨v, rfl⟩
theorem names1_sub (d : DK) (L : Int) (l : List ByteArray) : ∀ (s : Int × (ByteArray → Option Int)) (x : ByteArray), (l.foldl (keepName d L) s).2 x ≠ none → s.2 x ≠ none ∨ x ∈ l := by
  induction l with
  | nil => intro s x h; exact .inl h
  | cons y l ih =>
    intro s x h
    rcases ih _ x h with h | h
    · by_cases e : x = y
      · exact .inr (e ▸ List.mem_cons_self)
      · refine .inl ?_
        rcases keepName_snd d L s y with e' | ⟨v, e'⟩
        · rw [e'] at h; exact h
        · rw [e'] at h; simpa [upd, e] using h
    · exact .inr (List.mem_cons_of_mem _ h)

theorem files2_ok {n : Nat} {d : DK} (hf : FilesOk n d.files) (m : ByteArray → Option Int) (L : Int) (l : List ByteArray) : ∀ (s : Int × (Int → Option (ByteArray × Int))), FilesOk n s.2 → FilesOk n (l.foldl (keepFile d m L) s).2 := by
  induction l with
  | nil => intro s h; exact h
  | cons y l ih =>
    intro s h
    refine ih _ ?_
    obtain ⟨h1, h2, h3⟩ := hf.get ((m y).getD 0)
    have put : ∀ (q : Int) (dat : ByteArray), dat.size ≤ n * 67108864 → FilesOk n (upd s.2 q (dat, (dat.size : Int))) := fun q dat hd k p hp => by
      by_cases e : k = q
      · simp [upd, e] at hp
        subst hp
        exact ⟨hd, Int.natCast_nonneg _, Int.le_refl _⟩
      · simp [upd, e] at hp
        exact h k p hp
    unfold keepFile
    simp only
    split
    · exact h
    · split
      · exact put _ _ (by rw [ByteArray.size_extract]; omega)
      · exact put _ _ h1

theorem keyList_le {n : Nat} {f g : ByteArray → Option Int} {l : List ByteArray} (h : KeyList (orF g f) l) (hf : Few n f g) : l.length ≤ n := by
  obtain ⟨U, h1, h2⟩ := hf
  have hnd : l.Nodup := h.rising.imp fun {a b} hab e => by subst e; exact absurd hab (List.lt_irrefl _)
  refine Nat.le_trans (List.Nodup.length_le_of_subset hnd fun k hk => h2 k ?_) h1
  have := (h.mem k).1 hk
  unfold orF at this
  cases hg : g k with
  | none => rw [hg] at this; exact .inl this
  | some v => exact .inr (by simp)

set_option maxRecDepth 100000 in
set_option maxHeartbeats 16000000 in
theorem vfs_restart {w : World} {n B rf rn rk : Nat} {d : DK} (hD : DiskAt w n B rf rn rk d) (L : Int) :
    Calls Try.prog 29 #[.pointer (some ⟨B, 0, none⟩), .int .i64 L] w fun e w' => ∃ rf' rn' rk' d', e = .returned (.int .i64 0) ∧ d.Restarts L d' ∧ DiskAt w' n B rf' rn' rk' d' ∧ Keeps (One B) w w' ∧ w.heap.size ≤ rf' ∧ w.heap.size ≤ rn' ∧ w.heap.size ≤ rk' := by
  have hn1 := hD.ok.n1
  have hD0 := hD.keeps (S := Nil) ((Keeps.refl _ _).alloc (.cells #[.int .i64 L] 3)) (fun _ _ h => h)
  have hL := Blk.new w 3 #[.int .i64 L]
  have h2 := hD0.c2
  have hmm := @run_makeMap Try.prog
  go_enter Try.func29, Try.ntmps29
  go_wp2_with fail
  refine (maps_clone hD0.kept).mono ?_
  rintro e w1 ⟨rfl, hm1, hK1⟩
  have hD1 := hD0.keeps hK1 (fun _ _ h => h)
  have h1 := hD1.c1
  clear h2
  simp only [World.size_alloc] at hm1
  have hL1 := hL.keeps hK1 (fun h => h)
  clear hL
  go_wp2_with fail
  obtain ⟨Da, ho1, hf1⟩ := mapF_owns hm1 Try.underlying9 (fun k hk => by have := hD.ko k hk; unfold maxLen; omega) (by unfold maxLen; omega)
  obtain ⟨Db, ho2, hf2⟩ := mapF_owns hD1.names Try.underlying9 (fun k hk => by have := hD.no k hk; unfold maxLen; omega) (by unfold maxLen; omega)
  have hlt := hD.lt
  have lB := hlt B (.inl rfl)
  have lf := hlt rf (.inr (.inl rfl))
  have ln := hlt rn (.inr (.inr (.inl rfl)))
  have lk := hlt rk (.inr (.inr (.inr rfl)))
  refine (maps_copy ho1 ho2 (by omega) (by omega)).mono ?_
  rintro e w2 ⟨rfl, ⟨Dc, ho3, hf3⟩, hK2⟩
  have hD2 := hD1.keeps hK2 (fun b hb e => by have := hlt b hb; unfold One at e; omega)
  have kw2 : Keeps (One B) w w2 := (((Keeps.refl (One B) w).alloc _).trans hK1 (fun _ h _ => h.elim)).trans hK2 (fun b h hl => by unfold One at h; omega)
  have hL2 := hL1.keeps hK2 (fun e => by unfold One at e; omega)
  clear hL1 h1 ho1 ho2
  go_wp2_with fail
  refine (maps_keys _ _).mono ?_
  rintro e w3 ⟨rfl, rfl⟩
  go_wp2_with fail
  have hfo : ∀ k : ByteArray, Maps.has Dc (.string k.data.toList) = true ↔ orF d.kept d.names k ≠ none := fun k => by
    rw [hf3, Bool.or_eq_true, hf1, hf2]
    unfold orF
    cases d.kept k <;> simp
  have hso := sorted_keys ((ho3.alloc (.cells #[.int .i64 0] 3)).alloc (.map #[] 0)) hfo (by omega)
  simp only [World.size_alloc] at hso
  refine hso.mono ?_
  clear hso
  rintro e w4 ⟨v1, l1, rfl, hl1, hlen1, hrow1, hK4⟩
  have kk : Keeps Nil w2 w4 := (((Keeps.refl Nil w2).alloc _).alloc _).same hK4
  have hD4 := hD2.keeps kk (fun _ _ h => h)
  have kw4 : Keeps (One B) w w4 := kw2.trans kk (fun _ h _ => h.elim)
  have hL4 := hL2.keeps kk (fun h => h)
  have hI4 : Blk w4 w2.heap.size 3 #[.int .i64 0] := ((Blk.new w2 3 #[.int .i64 0]).alloc _).keeps hK4 (fun h => h)
  have hN4 : MapF w4 (w2.heap.size + 1) Value.string (Value.int .i64) 0 (fun _ : ByteArray => (none : Option Int)) := by
    have := (MapF.new (w2.alloc (.cells #[.int .i64 0] 3)) Value.string (Value.int .i64) (κ := ByteArray) (β := Int)).keeps hK4 (fun h => h)
    simpa only [World.size_alloc] using this
  have hb2 := hK2.size
  have hb1 := hK1.size
  simp only [World.size_alloc] at hb1

  obtain ⟨A1, cap1, rfl, _, hA1⟩ := row_form hrow1
  have hlt4 : ∀ b, fp4 B rf rn rk b → b < w.heap.size := hD.lt
  have HA := Lib.hid hA1
  clear hA1 hrow1
  generalize hbi : w2.heap.size = bi at *
  clear hL2 hD2 hbi kk hf1 hf2 hf3 ho3 hfo hm1 hK2 hD1 hD0
  go_wp2_with fail
  go_loopw [42] (fun i wr => ∃ k : Nat, k ≤ l1.length ∧ i = .int .i64 k ∧ Rel1 d L l1 bi (bi + 1) w4 k wr) (fun i _ => l1.length - (intOf i).toNat)
  case atStart => exact ⟨0, Nat.zero_le _, rfl, ⟨hI4, hN4, Int.le_refl 0, Int.le_refl 0, Keeps.refl _ _⟩⟩
  case round =>
    obtain ⟨k, hk, rfl, hR⟩ := hrel
    have hne : ¬ One bi (bi + 1) := fun e => by unfold One at e; omega
    have hne' : ¬ One (bi + 1) bi := fun e => by unfold One at e; omega
    by_cases hlt : k < l1.length
    · obtain ⟨g, rfl, hg1, hg2, hcl⟩ := HA.out k (.string l1[k]) (by simp [hlt])
      have hgne : ∀ b, b = g → ¬ Two bi (bi + 1) b := fun b e h => by rcases h with h | h <;> omega
      have hcell := (hR.keep.cell (p := ⟨g, k, none⟩) hg2 (hgne g rfl)).trans hcl
      clear hcl
      have hlt' : (k : Int) < (l1.length : Int) := by omega
      have hx : l1[k] = l1[k] := rfl
      generalize hxx : l1[k] = x at hcell
      have Hx := Lib.hid hxx
      clear hx hxx
      have hDr := hD4.keeps hR.keep (fun b hb h => by have := hlt4 b hb; rcases h with h | h <;> omega)
      have c1 := hDr.c1
      have c2 := hDr.c2
      have hLr := hL4.keeps hR.keep (fun h => by rcases h with h | h <;> omega)
      have hb := hR.blk
      have hm := hR.map
      have hlo := hR.lo
      have hhi := hR.hi
      generalize hs : names1 d L l1 k = s at hb hm hlo hhi
      have Hs := Lib.hid hs
      clear hs
      obtain ⟨i, m⟩ := s
      simp only at hb hm hlo hhi
      have hnx := vfs_next hb hLr (by omega) hlo (by omega)
      have hz := mixI_range (IntKind.u64.wrap L) (i + 1)
      have hz' := Lib.hid (rfl : mixI (IntKind.u64.wrap L) (i + 1) = mixI (IntKind.u64.wrap L) (i + 1))
      generalize hzz : mixI (IntKind.u64.wrap L) (i + 1) = z at hnx hz
      have Hz := Lib.hid hzz
      have hnext := Lib.hid hnx
      clear hnx hzz hz'
      obtain ⟨hz0, hz1⟩ := hz
      cases hka : d.kept x with
      | none =>
        have lk2 := hDr.kept.lookup_none kS Try.underlying40 (zeroInt _) hka
        cases hnb : d.names x with
        | none =>
          have lk1 := hDr.names.lookup_none kS Try.underlying40 (zeroInt _) hnb
          have he : keepName d L (i, m) x = (i, m) := by
            simp [keepName, hka, hnb]
          have HE := Lib.hid he
          clear he
          clear hka hnb
          go_wp2
          go_roundw
          case rel => exact ⟨k + 1, by omega, by go_num, hR.next hlt (by rw [Hs.out, Hx.out]; exact HE.out) hb (hm.mono (Nat.le_succ k)) (by omega) (by omega) (Keeps.refl _ wr)⟩
          case measure => simp [intOf]; omega
        | some b =>
          have lk1 := hDr.names.lookup_some kS Try.underlying40 hnb
          by_cases hv0 : b = 0
          · have q1 : (0 != b) = false := by rw [bne_eq_false_iff_eq]; exact hv0.symm
            clear hv0
            by_cases hp : z % 2 = 1
            · have q2 : (z % 2 == 1) = true := by rw [hp]; rfl
              have he : keepName d L (i, m) x = (i + 1, upd m x b) := by
                simp [keepName, hka, hnb, Hz.out, hp]
              have HE := Lib.hid he
              clear he
              clear hka hnb hp
              go_wp2_with (first | (go_at_call 51; refine hnext.out.mono ?_; rintro e w5 ⟨rfl, hb5, hK5⟩; have hm5 := hm.keeps hK5 hne) | (at_mapUpdate; refine wpList_mapF_update rfl (.tmp 81) (.tmp 82) (.tmp 83) rfl hm5 kS Try.underlying40 rfl x b rfl rfl ?_; intro w6 hm6 hK6))
              go_roundw
              case rel => exact ⟨k + 1, by omega, by go_num, hR.next hlt (by rw [Hs.out, Hx.out]; exact HE.out) (hb5.keeps hK6 hne') hm6 (by omega) (by omega) ((hK5.mono (fun b _ h => .inl h)).trans hK6 one_two')⟩
              case measure => simp [intOf]; omega
            · have q2 : (z % 2 == 1) = false := by rw [beq_eq_false_iff_ne]; exact hp
              have he : keepName d L (i, m) x = (i + 1, m) := by
                simp [keepName, hka, hnb, Hz.out, hp]
              have HE := Lib.hid he
              clear he
              clear hka hnb hp
              go_wp2_with (first | (go_at_call 51; refine hnext.out.mono ?_; rintro e w5 ⟨rfl, hb5, hK5⟩; have hm5 := hm.keeps hK5 hne))
              go_roundw
              case rel => exact ⟨k + 1, by omega, by go_num, hR.next hlt (by rw [Hs.out, Hx.out]; exact HE.out) hb5 (hm5.mono (Nat.le_succ k)) (by omega) (by omega) (hK5.mono (fun b _ h => .inl h))⟩
              case measure => simp [intOf]; omega
          · have q1 : (0 != b) = true := by rw [bne_iff_ne]; exact fun e => hv0 e.symm
            clear hv0
            by_cases hp : z % 2 = 1
            · have q2 : (z % 2 == 1) = true := by rw [hp]; rfl
              have he : keepName d L (i, m) x = (i + 1, upd m x b) := by
                simp [keepName, hka, hnb, Hz.out, hp]
              have HE := Lib.hid he
              clear he
              clear hka hnb hp
              go_wp2_with (first | (go_at_call 51; refine hnext.out.mono ?_; rintro e w5 ⟨rfl, hb5, hK5⟩; have hm5 := hm.keeps hK5 hne) | (at_mapUpdate; refine wpList_mapF_update rfl (.tmp 81) (.tmp 82) (.tmp 83) rfl hm5 kS Try.underlying40 rfl x b rfl rfl ?_; intro w6 hm6 hK6))
              go_roundw
              case rel => exact ⟨k + 1, by omega, by go_num, hR.next hlt (by rw [Hs.out, Hx.out]; exact HE.out) (hb5.keeps hK6 hne') hm6 (by omega) (by omega) ((hK5.mono (fun b _ h => .inl h)).trans hK6 one_two')⟩
              case measure => simp [intOf]; omega
            · have q2 : (z % 2 == 1) = false := by rw [beq_eq_false_iff_ne]; exact hp
              have he : keepName d L (i, m) x = (i + 1, m) := by
                simp [keepName, hka, hnb, Hz.out, hp]
              have HE := Lib.hid he
              clear he
              clear hka hnb hp
              go_wp2_with (first | (go_at_call 51; refine hnext.out.mono ?_; rintro e w5 ⟨rfl, hb5, hK5⟩; have hm5 := hm.keeps hK5 hne))
              go_roundw
              case rel => exact ⟨k + 1, by omega, by go_num, hR.next hlt (by rw [Hs.out, Hx.out]; exact HE.out) hb5 (hm5.mono (Nat.le_succ k)) (by omega) (by omega) (hK5.mono (fun b _ h => .inl h))⟩
              case measure => simp [intOf]; omega
      | some a =>
        have lk2 := hDr.kept.lookup_some kS Try.underlying40 hka
        cases hnb : d.names x with
        | none =>
          have lk1 := hDr.names.lookup_none kS Try.underlying40 (zeroInt _) hnb
          by_cases hv0 : a = 0
          · have q1 : (a != 0) = false := by rw [bne_eq_false_iff_eq]; exact hv0
            clear hv0
            by_cases hp : z % 2 = 1
            · have q2 : (z % 2 == 1) = true := by rw [hp]; rfl
              have he : keepName d L (i, m) x = (i + 1, m) := by
                simp [keepName, hka, hnb, Hz.out, hp]
              have HE := Lib.hid he
              clear he
              clear hka hnb hp
              go_wp2_with (first | (go_at_call 51; refine hnext.out.mono ?_; rintro e w5 ⟨rfl, hb5, hK5⟩; have hm5 := hm.keeps hK5 hne))
              go_roundw
              case rel => exact ⟨k + 1, by omega, by go_num, hR.next hlt (by rw [Hs.out, Hx.out]; exact HE.out) hb5 (hm5.mono (Nat.le_succ k)) (by omega) (by omega) (hK5.mono (fun b _ h => .inl h))⟩
              case measure => simp [intOf]; omega
            · have q2 : (z % 2 == 1) = false := by rw [beq_eq_false_iff_ne]; exact hp
              have he : keepName d L (i, m) x = (i + 1, upd m x a) := by
                simp [keepName, hka, hnb, Hz.out, hp]
              have HE := Lib.hid he
              clear he
              clear hka hnb hp
              go_wp2_with (first | (go_at_call 51; refine hnext.out.mono ?_; rintro e w5 ⟨rfl, hb5, hK5⟩; have hm5 := hm.keeps hK5 hne) | (at_mapUpdate; refine wpList_mapF_update rfl (.tmp 81) (.tmp 82) (.tmp 83) rfl hm5 kS Try.underlying40 rfl x a rfl rfl ?_; intro w6 hm6 hK6))
              go_roundw
              case rel => exact ⟨k + 1, by omega, by go_num, hR.next hlt (by rw [Hs.out, Hx.out]; exact HE.out) (hb5.keeps hK6 hne') hm6 (by omega) (by omega) ((hK5.mono (fun b _ h => .inl h)).trans hK6 one_two')⟩
              case measure => simp [intOf]; omega
          · have q1 : (a != 0) = true := by rw [bne_iff_ne]; exact hv0
            clear hv0
            by_cases hp : z % 2 = 1
            · have q2 : (z % 2 == 1) = true := by rw [hp]; rfl
              have he : keepName d L (i, m) x = (i + 1, m) := by
                simp [keepName, hka, hnb, Hz.out, hp]
              have HE := Lib.hid he
              clear he
              clear hka hnb hp
              go_wp2_with (first | (go_at_call 51; refine hnext.out.mono ?_; rintro e w5 ⟨rfl, hb5, hK5⟩; have hm5 := hm.keeps hK5 hne))
              go_roundw
              case rel => exact ⟨k + 1, by omega, by go_num, hR.next hlt (by rw [Hs.out, Hx.out]; exact HE.out) hb5 (hm5.mono (Nat.le_succ k)) (by omega) (by omega) (hK5.mono (fun b _ h => .inl h))⟩
              case measure => simp [intOf]; omega
            · have q2 : (z % 2 == 1) = false := by rw [beq_eq_false_iff_ne]; exact hp
              have he : keepName d L (i, m) x = (i + 1, upd m x a) := by
                simp [keepName, hka, hnb, Hz.out, hp]
              have HE := Lib.hid he
              clear he
              clear hka hnb hp
              go_wp2_with (first | (go_at_call 51; refine hnext.out.mono ?_; rintro e w5 ⟨rfl, hb5, hK5⟩; have hm5 := hm.keeps hK5 hne) | (at_mapUpdate; refine wpList_mapF_update rfl (.tmp 81) (.tmp 82) (.tmp 83) rfl hm5 kS Try.underlying40 rfl x a rfl rfl ?_; intro w6 hm6 hK6))
              go_roundw
              case rel => exact ⟨k + 1, by omega, by go_num, hR.next hlt (by rw [Hs.out, Hx.out]; exact HE.out) (hb5.keeps hK6 hne') hm6 (by omega) (by omega) ((hK5.mono (fun b _ h => .inl h)).trans hK6 one_two')⟩
              case measure => simp [intOf]; omega
        | some b =>
          have lk1 := hDr.names.lookup_some kS Try.underlying40 hnb
          by_cases hab : a = b
          · subst hab
            have q1 : (a != a) = false := by simp
            have he : keepName d L (i, m) x = (i, upd m x a) := by
              simp [keepName, hka, hnb]
            have HE := Lib.hid he
            clear he
            clear hka hnb
            go_wp2_with (first | (at_mapUpdate; refine wpList_mapF_update rfl (.tmp 81) (.tmp 82) (.tmp 83) rfl hm kS Try.underlying40 rfl x a rfl rfl ?_; intro w6 hm6 hK6))
            go_roundw
            case rel => exact ⟨k + 1, by omega, by go_num, hR.next hlt (by rw [Hs.out, Hx.out]; exact HE.out) (hb.keeps hK6 hne') hm6 (by omega) (by omega) ((Keeps.refl _ wr).trans hK6 one_two')⟩
            case measure => simp [intOf]; omega
          · have q1 : (a != b) = true := by rw [bne_iff_ne]; exact hab
            by_cases hp : z % 2 = 1
            · have q2 : (z % 2 == 1) = true := by rw [hp]; rfl
              have he : keepName d L (i, m) x = (i + 1, upd m x b) := by
                simp [keepName, hka, hnb, Hz.out, hp, hab]
              have HE := Lib.hid he
              clear he
              clear hka hnb hab hp
              go_wp2_with (first | (go_at_call 51; refine hnext.out.mono ?_; rintro e w5 ⟨rfl, hb5, hK5⟩; have hm5 := hm.keeps hK5 hne) | (at_mapUpdate; refine wpList_mapF_update rfl (.tmp 81) (.tmp 82) (.tmp 83) rfl hm5 kS Try.underlying40 rfl x b rfl rfl ?_; intro w6 hm6 hK6))
              go_roundw
              case rel => exact ⟨k + 1, by omega, by go_num, hR.next hlt (by rw [Hs.out, Hx.out]; exact HE.out) (hb5.keeps hK6 hne') hm6 (by omega) (by omega) ((hK5.mono (fun b _ h => .inl h)).trans hK6 one_two')⟩
              case measure => simp [intOf]; omega
            · have q2 : (z % 2 == 1) = false := by rw [beq_eq_false_iff_ne]; exact hp
              have he : keepName d L (i, m) x = (i + 1, upd m x a) := by
                simp [keepName, hka, hnb, Hz.out, hp, hab]
              have HE := Lib.hid he
              clear he
              clear hka hnb hab hp
              go_wp2_with (first | (go_at_call 51; refine hnext.out.mono ?_; rintro e w5 ⟨rfl, hb5, hK5⟩; have hm5 := hm.keeps hK5 hne) | (at_mapUpdate; refine wpList_mapF_update rfl (.tmp 81) (.tmp 82) (.tmp 83) rfl hm5 kS Try.underlying40 rfl x a rfl rfl ?_; intro w6 hm6 hK6))
              go_roundw
              case rel => exact ⟨k + 1, by omega, by go_num, hR.next hlt (by rw [Hs.out, Hx.out]; exact HE.out) (hb5.keeps hK6 hne') hm6 (by omega) (by omega) ((hK5.mono (fun b _ h => .inl h)).trans hK6 one_two')⟩
              case measure => simp [intOf]; omega
    · have hke : k = l1.length := by omega
      subst hke
      have hR0 := hR
      clear hR
      have hfn : names1 d L l1 l1.length = l1.foldl (keepName d L) (0, fun _ => none) := by unfold names1; rw [List.take_length]
      have hlt' : ¬ (l1.length : Int) < (l1.length : Int) := by omega
      have hm := hR0.map
      have hb := hR0.blk
      have hlo := hR0.lo
      have hhi := hR0.hi
      generalize hs : names1 d L l1 l1.length = s at hb hm hlo hhi hfn
      have Hs := Lib.hid hs
      have Hfn := Lib.hid hfn
      clear hs hfn
      obtain ⟨i1, m⟩ := s
      simp only at hb hm hlo hhi
      have hDr := hD4.keeps hR0.keep (fun b hb h => by have := hlt4 b hb; rcases h with h | h <;> omega)
      have hLr := hL4.keeps hR0.keep (fun h => by rcases h with h | h <;> omega)
      have kw5 : Keeps (One B) w wr := kw4.trans hR0.keep (fun b h hl => by rcases h with h | h <;> omega)
      go_wp2_with fail
      refine (maps_keys _ _).mono ?_
      rintro e w5 ⟨rfl, rfl⟩
      go_wp2_with fail
      have hmA : MapF (wr.alloc (.map #[] 0)) (bi + 1) Value.string (Value.int .i64) l1.length m := hm.keeps ((Keeps.refl Nil wr).alloc _) (fun h => h)
      have hsub : ∀ k, m k ≠ none → k ∈ l1 := fun k h => by
        have h' := names1_sub d L l1 (0, fun _ => none) k (by rw [← Hfn.out]; exact h)
        exact h'.resolve_left (fun e => e rfl)
      have hsz : ∀ k, m k ≠ none → k.size ≤ 40 := fun k h => by
        have h' := (hl1.mem k).1 (hsub k h)
        unfold orF at h'
        cases hk : d.kept k with
        | none => rw [hk] at h'; exact hD.no k h'
        | some v => exact hD.ko k (by rw [hk]; simp)
      obtain ⟨Dm, hom, hfm⟩ := mapF_owns hmA Try.underlying9 (fun k hk => by have := hsz k hk; unfold maxLen; omega) (by unfold maxLen; omega)
      have hso := sorted_keys hom hfm (by omega)
      simp only [World.size_alloc] at hso
      refine hso.mono ?_
      clear hso
      rintro e w6 ⟨v2, l2, rfl, hl2, hlen2, hrow2, hK6⟩
      have kk : Keeps Nil wr w6 := ((Keeps.refl Nil wr).alloc _).same hK6
      have hD6 := hDr.keeps kk (fun _ _ h => h)
      have kw6 : Keeps (One B) w w6 := kw5.trans kk (fun _ h _ => h.elim)
      have hL6 := hLr.keeps kk (fun h => h)
      have hb6 := hb.keeps kk (fun h => h)
      have hm6 := hm.keeps kk (fun h => h)
      have hF6 : MapF w6 wr.heap.size (Value.int .i64) fileV 0 (fun _ : Int => (none : Option (ByteArray × Int))) := (MapF.new wr (Value.int .i64) fileV (κ := Int) (β := ByteArray × Int)).keeps hK6 (fun h => h)
      have hlr := hm.lt
      generalize hri : wr.heap.size = ri at *
      obtain ⟨A2, cap2, rfl, _, hA2⟩ := row_form hrow2
      have HA2 := Lib.hid hA2
      clear hA2 hrow2 hmA hom hfm kk hb hm hDr hLr
      go_wp2_with fail
      go_loopw [90] (fun i wr => ∃ k : Nat, k ≤ l2.length ∧ i = .int .i64 k ∧ Rel2 d m L i1 l2 bi ri w6 k wr) (fun i _ => l2.length - (intOf i).toNat)
      case atStart => exact ⟨0, Nat.zero_le _, rfl, ⟨hb6, hF6, by simp [files2]; exact hlo, by simp [files2], Keeps.refl _ _⟩⟩
      case round =>
        obtain ⟨k, hk, rfl, hR⟩ := hrel
        by_cases hlt : k < l2.length
        · obtain ⟨g, rfl, hg1, hg2, hcl⟩ := HA2.out k (.string l2[k]) (by simp [hlt])
          have hmx : ∃ q, m l2[k] = some q := Option.ne_none_iff_exists'.1 ((hl2.mem _).1 (List.getElem_mem hlt))
          have hgne : ∀ b, b = g → ¬ Two bi ri b := fun b e h => by rcases h with h | h <;> omega
          have hcell := (hR.keep.cell (p := ⟨g, k, none⟩) hg2 (hgne g rfl)).trans hcl
          clear hcl
          have hlt' : (k : Int) < (l2.length : Int) := by omega
          generalize hxx : l2[k] = x at hcell hmx
          have Hx := Lib.hid hxx
          clear hxx
          obtain ⟨q, hq⟩ := hmx
          have hDr := hD6.keeps hR.keep (fun b hb h => by have := hlt4 b hb; rcases h with h | h <;> omega)
          have c0 := hDr.c0
          have hLr := hL6.keeps hR.keep (fun h => by rcases h with h | h <;> omega)
          have hmr := hm6.keeps hR.keep (fun h => by rcases h with h | h <;> omega)
          have hb := hR.blk
          have hF := hR.map
          have hlo := hR.lo
          have hhi := hR.hi
          generalize hs : files2 d m L i1 l2 k = s at hb hF hlo hhi
          have Hs := Lib.hid hs
          clear hs
          obtain ⟨i, f⟩ := s
          simp only at hb hF hlo hhi
          have hget1 := hmr.get_some kS Try.underlying40 hq
          have hget2 := hDr.files.get kI Try.underlying39 (zeroFile _) q
          obtain ⟨hp2, hp0, hp1⟩ := hD.fs.get q
          generalize hpp : (d.files q).getD (⟨#[]⟩, 0) = p at hget2 hp2 hp0 hp1
          have Hp := Lib.hid hpp
          clear hpp
          obtain ⟨dat, sure⟩ := p
          simp only at hp2 hp0 hp1
          unfold fileV at hget2
          simp only at hget2
          have Hq := Lib.hid hq
          clear hq
          cases hfq : f q with
          | some p' =>
            have he : keepFile d m L (i, f) x = (i, f) := by
              simp [keepFile, Hq.out, hfq]
            have HE := Lib.hid he
            clear he
            have hget3 := (hF.keeps ((Keeps.refl Nil wr).alloc (.cells #[.string dat, .int .i64 sure] 66)) (fun h => h)).lookup_some kI Try.underlying39 hfq
            clear hfq
            unfold fileV at hget3
            go_wp2
            go_roundw
            case rel => exact ⟨k + 1, by omega, by go_num, hR.next hlt (by rw [Hs.out, Hx.out]; exact HE.out) (hb.keeps (((Keeps.refl Nil wr).alloc _).alloc _) (fun h => h)) ((hF.mono (Nat.le_succ k)).keeps (((Keeps.refl Nil wr).alloc _).alloc _) (fun h => h)) (by omega) (by omega) (((Keeps.refl _ wr).alloc _).alloc _)⟩
            case measure => simp [intOf]; omega
          | none =>
            have hget3 := (hF.keeps ((Keeps.refl Nil wr).alloc (.cells #[.string dat, .int .i64 sure] 66)) (fun h => h)).lookup_none kI Try.underlying39 (zeroFile _) hfq
            unfold fileV at hget3
            by_cases hmo : (dat.size : Int) - sure > 0
            · go_wp2_with fail
              have kk : Keeps Nil wr ((wr.alloc (.cells #[.string dat, .int .i64 sure] 66)).alloc (.cells #[.string ⟨#[]⟩, .int .i64 0] 66)) := ((Keeps.refl Nil wr).alloc _).alloc _
              have hbW := hb.keeps kk (fun h => h)
              have hLW := hLr.keeps kk (fun h => h)
              have hFW := hF.keeps kk (fun h => h)
              have hbx := (Blk.new wr 66 #[.string dat, .int .i64 sure]).alloc (.cells #[.string ⟨#[]⟩, .int .i64 0] 66)
              have hgb : ri < wr.heap.size := hF.lt
              have hgb2 : bi < wr.heap.size := hb.lt
              generalize (wr.alloc (.cells #[.string dat, .int .i64 sure] 66)).alloc (.cells #[.string ⟨#[]⟩, .int .i64 0] 66) = W at *
              generalize hgb0 : wr.heap.size = gb at *
              have Hgb := Lib.hid hgb0
              clear hgb0
              have hnx := vfs_next (hbW.drew) (hLW.drew) (by omega) hlo (by omega)
              obtain ⟨hz0, hz1⟩ := mixI_range (IntKind.u64.wrap L) (i + 1)
              generalize hzz : mixI (IntKind.u64.wrap L) (i + 1) = z at hnx hz0 hz1
              have Hz := Lib.hid hzz
              have hnext := Lib.hid hnx
              clear hnx hzz
              have x0 : W.drew.cell? ⟨gb, 0, none⟩ = some (.string dat) := hbx.cell 0
              have x1 : W.drew.cell? ⟨gb, 1, none⟩ = some (.int .i64 sure) := hbx.cell 1
              have xf := hbx.drew.frozen 0
              have e1 : IntKind.i64.wrap ((dat.size : Int) - sure + 1) = (dat.size : Int) - sure + 1 := IntWalk.i64_in _ (by omega)
              have e2 : IntKind.u64.wrap ((dat.size : Int) - sure + 1) = (dat.size : Int) - sure + 1 := IntWalk.u64_in _ (by omega)
              have e3 : (((dat.size : Int) - sure + 1) == 0) = false := by rw [beq_eq_false_iff_ne]; omega
              have hr0 : 0 ≤ z % ((dat.size : Int) - sure + 1) := Int.emod_nonneg _ (by omega)
              have hr1 : z % ((dat.size : Int) - sure + 1) < (dat.size : Int) - sure + 1 := Int.emod_lt_of_pos _ (by omega)
              have e4 : IntKind.i64.wrap (z % ((dat.size : Int) - sure + 1)) = z % ((dat.size : Int) - sure + 1) := IntWalk.i64_in _ (by omega)
              have e5 : IntKind.i64.wrap (sure + z % ((dat.size : Int) - sure + 1)) = sure + z % ((dat.size : Int) - sure + 1) := IntWalk.i64_in _ (by omega)
              have e6 : 0 ≤ sure + z % ((dat.size : Int) - sure + 1) := by omega
              have e7 : sure + z % ((dat.size : Int) - sure + 1) ≤ (dat.size : Int) := by omega
              have hsz : ((dat.extract 0 (sure + z % ((dat.size : Int) - sure + 1)).toNat).size : Int) = max (sure + z % ((dat.size : Int) - sure + 1)) 0 := by
                rw [ByteArray.size_extract]; omega
              have he : keepFile d m L (i, f) x = (i + 1, upd f q (dat.extract 0 (sure + z % ((dat.size : Int) - sure + 1)).toNat, ((dat.extract 0 (sure + z % ((dat.size : Int) - sure + 1)).toNat).size : Int))) := by
                simp only [keepFile, Hq.out, Option.getD_some, hfq, Option.isSome_none, Bool.false_eq_true, if_false, Hp.out, if_pos hmo, Hz.out]
              rw [hsz] at he
              have HE := Lib.hid he
              clear he hsz
              go_region_with (go_at_call 51; refine hnext.out.mono ?_; rintro e w5 ⟨rfl, hb5, hK5⟩; have hbx5 := hbx.drew.keeps hK5 (fun e => by unfold One at e; omega); have y0 : w5.cell? ⟨gb, 0, none⟩ = some (.string dat) := hbx5.cell 0; have y1 : w5.cell? ⟨gb, 1, none⟩ = some (.int .i64 sure) := hbx5.cell 1; have yf := hbx5.frozen 0)
              all_goals clear hget1 hget2 hget3 e1 e2 e3 e4 e5 x0 x1 xf
              all_goals
                have kS5 : Keeps (One gb) w5 (w5.setCell ⟨gb, 0, none⟩ (.string (dat.extract 0 (sure + z % ((dat.size : Int) - sure + 1)).toNat))) := (Keeps.refl (One gb) w5).setCell (p := ⟨gb, 0, none⟩) (.inl rfl) _
                have hF5 := (hFW.drew.keeps hK5 (fun e => by unfold One at e; omega)).keeps kS5 (fun e => by unfold One at e; omega)
                have hb5' := hb5.keeps kS5 (fun e => by unfold One at e; omega)
                have kW := (((kk.drew.mono (T := Two bi ri) (fun _ _ h => h.elim)).trans hK5 one_two).trans kS5 (fun b h hl => by have := Hgb.out; unfold One at h; omega))
                go_wp2_with (at_mapUpdate; refine wpList_mapF_update rfl (.tmp 132) (.tmp 133) (.tmp 139) rfl hF5 kI Try.underlying39 rfl q (dat.extract 0 (sure + z % ((dat.size : Int) - sure + 1)).toNat, max (sure + z % ((dat.size : Int) - sure + 1)) 0) rfl rfl ?_; intro w7 hm7 hK7)
                go_roundw
                case rel => exact ⟨k + 1, by omega, by go_num, hR.next hlt (by rw [Hs.out, Hx.out]; exact HE.out) (hb5'.keeps hK7 (fun e => by unfold One at e; omega)) hm7 (by omega) (by omega) (kW.trans hK7 one_two')⟩
                case measure => simp [intOf]; omega
            · have he : keepFile d m L (i, f) x = (i, upd f q (dat, (dat.size : Int))) := by
                simp only [keepFile, Hq.out, Option.getD_some, hfq, Option.isSome_none, Bool.false_eq_true, if_false, Hp.out, if_neg hmo]
              have HE := Lib.hid he
              clear he hfq
              have kk : Keeps Nil wr ((wr.alloc (.cells #[.string dat, .int .i64 sure] 66)).alloc (.cells #[.string ⟨#[]⟩, .int .i64 0] 66)) := ((Keeps.refl Nil wr).alloc _).alloc _
              go_wp2_with (at_mapUpdate; refine wpList_mapF_update rfl (.tmp 132) (.tmp 133) (.tmp 139) rfl (hF.keeps kk (fun h => h)) kI Try.underlying39 rfl q (dat, (dat.size : Int)) rfl rfl ?_; intro w7 hm7 hK7)
              go_roundw
              case rel => exact ⟨k + 1, by omega, by go_num, hR.next hlt (by rw [Hs.out, Hx.out]; exact HE.out) ((hb.keeps kk (fun h => h)).keeps hK7 (fun e => by unfold One at e; omega)) hm7 (by omega) (by omega) ((kk.mono (T := Two bi ri) (fun _ _ h => h.elim)).trans hK7 one_two')⟩
              case measure => simp [intOf]; omega
        · have hke : k = l2.length := by omega
          subst hke
          have hlt' : ¬ (l2.length : Int) < (l2.length : Int) := by omega
          have hDr := hD6.keeps hR.keep (fun b hb h => by have := hlt4 b hb; rcases h with h | h <;> omega)
          have hmr := hm6.keeps hR.keep (fun h => by rcases h with h | h <;> omega)
          have hF := hR.map
          have hkeep := hR.keep
          have hF' := hF
          generalize hs : files2 d m L i1 l2 l2.length = s at hF hF'
          have Hs := Lib.hid hs
          clear hs hF hR
          go_wp2_with fail
          refine (maps_clone hmr).mono ?_
          rintro e w8 ⟨rfl, hm8, hK8⟩
          have hD8 := hDr.keeps hK8 (fun _ _ h => h)
          have c0 := hD8.c0
          have c1 := hD8.c1
          have c2 := hD8.c2
          have c5 := hD8.c5
          have c7 := hD8.c7
          have f0 := hD8.blk.frozen 0
          have f1 := hD8.blk.frozen 1
          have f2 := hD8.blk.frozen 2
          have f5 := hD8.blk.frozen 5
          have f7 := hD8.blk.frozen 7
          go_wp2_with fail
          go_ret
          have hl1n := keyList_le hl1 hD.un
          have hnd1 : l1.Nodup := hl1.rising.imp fun {a b} hab e => by subst e; exact absurd hab (List.lt_irrefl _)
          have hnd2 : l2.Nodup := hl2.rising.imp fun {a b} hab e => by subst e; exact absurd hab (List.lt_irrefl _)
          have hl2n : l2.length ≤ n := Nat.le_trans (List.Nodup.length_le_of_subset hnd2 fun k hk => hsub k ((hl2.mem k).1 hk)) hl1n
          have s0 := hK8.size
          have s1 := hkeep.size
          have s2 := hK6.size
          simp only [World.size_alloc] at s2
          have sr := hmr.lt
          have sf := hF'.lt
          have kS : Keeps (One B) w8 (((((w8.setCell ⟨B, 0, none⟩ (.map (some ri))).setCell ⟨B, 1, none⟩ (.map (some (bi + 1)))).setCell ⟨B, 2, none⟩ (.map (some wr.heap.size))).setCell ⟨B, 7, none⟩ (.bool false)).setCell ⟨B, 5, none⟩ (.int .i64 (-1))) :=
            (((((Keeps.refl (One B) w8).setCell (p := ⟨B, 0, none⟩) (.inl rfl) _).setCell (p := ⟨B, 1, none⟩) (.inl rfl) _).setCell (p := ⟨B, 2, none⟩) (.inl rfl) _).setCell (p := ⟨B, 7, none⟩) (.inl rfl) _).setCell (p := ⟨B, 5, none⟩) (.inl rfl) _
          have hl2' : l2.length ≤ n := hl2n
          have hfF : FilesOk n s.2 := by
            rw [← Hs.out]
            exact files2_ok hD.fs m L (l2.take l2.length) (i1, fun _ => none) (fun k p h => by cases h)
          have hno : NamesOk m := hsz
          have hok := hD.ok
          obtain ⟨o1, o2, o3, o4, o5, o6, o7⟩ := hok
          refine ⟨ri, bi + 1, wr.heap.size, { d with files := s.2, names := m, kept := m, down := false, armed := -1 }, rfl, ⟨l1, l2, hl1, by rw [← Hfn.out]; exact hl2, ?_⟩, ⟨?_, ?_, ?_, ?_, by omega, by omega, by omega, ⟨o1, o2, o3, o4, by dsimp only; omega, by dsimp only; omega, o7⟩, hfF, hno, hno, ⟨l1, hl1n, fun k hk => hsub k (by rcases hk with h | h <;> exact h)⟩⟩, ?_, by omega, by omega, by omega⟩
          · rw [← Hfn.out, ← Hs.out]
            unfold files2
            rw [List.take_length]
          · exact ((((hD8.blk.set_ 0 _).set_ 1 _).set_ 2 _).set_ 7 _).set_ 5 _
          · exact ((hF'.keeps hK8 (fun h => h)).keeps kS (fun e => by unfold One at e; omega)).mono hl2'
          · exact ((hmr.keeps hK8 (fun h => h)).keeps kS (fun e => by unfold One at e; omega)).mono hl1n
          · exact (hm8.keeps kS (fun e => by unfold One at e; omega)).mono hl1n
          · exact ((kw6.trans hkeep (fun b h hl => by rcases h with h | h <;> omega)).trans hK8 (fun _ h _ => h.elim)).trans kS (fun _ h _ => h)
end Go.Proofs.Ytmjlbpgngahgmaa
