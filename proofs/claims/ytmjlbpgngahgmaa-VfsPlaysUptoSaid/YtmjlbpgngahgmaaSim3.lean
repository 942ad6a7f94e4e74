/- The plain law of the two disks, part 3: a restart. No conditions. -/
import Derived.Test.YtmjlbpgngahgmaaSim2
namespace Go.Proofs.Ytmjlbpgngahgmaa
open Go.RowKit

/-! ### all names -/
def allG (kept : ByteArray → Option Int) (g : ByteArray → Option Int) (p : ByteArray × Int) : ByteArray → Option Int := if kept p.1 = none then upd g p.1 p.2 else g

theorem all_sim {kept : ByteArray → Option Int} {kl : List (ByteArray × Int)} (hk : NSim kept kl) : ∀ (ns : List (ByteArray × Int)) (g : ByteArray → Option Int) (acc : List (ByteArray × Int)), NSim g acc → (∀ p ∈ ns, 1 ≤ p.2) →
    NSim (ns.foldl (allG kept) g) (ns.foldl (allStep kl) acc)
  | [], g, acc, h, _ => h
  | p :: r, g, acc, h, hp => by
    rw [List.foldl_cons, List.foldl_cons]
    refine all_sim hk r _ _ ?_ fun q hq => hp q (List.mem_cons_of_mem _ hq)
    unfold allG allStep
    by_cases e : kept p.1 = none
    · rw [if_pos e, if_pos (hk.find_none e)]
      exact h.put p.1 (hp p List.mem_cons_self)
    · rw [if_neg e, if_neg (fun e' => e ((hk.zero p.1).1 e'))]
      exact h
theorem all_fun {kept : ByteArray → Option Int} : ∀ (ns : List (ByteArray × Int)) (g : ByteArray → Option Int), ns.Pairwise (fun a b => Lt a.1 b.1) → ∀ x, (kept x = none → ∀ v, (x, v) ∈ ns → ns.foldl (allG kept) g x = some v) ∧
      ((kept x ≠ none ∨ ∀ v, (x, v) ∉ ns) → ns.foldl (allG kept) g x = g x)
  | [], g, _, x => ⟨(fun _ v h => by cases h), fun _ => rfl⟩
  | p :: r, g, hp, x => by
    rw [List.pairwise_cons] at hp
    rw [List.foldl_cons]
    obtain ⟨h1, h2⟩ := all_fun r (allG kept g p) hp.2 x
    refine ⟨fun hk v hv => ?_, fun h => ?_⟩
    · rcases List.mem_cons.1 hv with e | e
      · subst e
        rw [h2 (.inr fun u hu => Lt.irrefl x (hp.1 _ hu))]
        unfold allG
        rw [if_pos hk]
        simp [upd]
      · exact h1 hk v e
    · rw [h2 (by
        rcases h with h | h
        · exact .inl h
        · exact .inr fun v hv => h v (List.mem_cons_of_mem _ hv))]
      unfold allG
      by_cases e : kept p.1 = none
      · rw [if_pos e]
        have hne : x ≠ p.1 := by
          rintro rfl
          rcases h with h | h
          · exact h e
          · exact h p.2 List.mem_cons_self
        simp [upd, hne]
      · rw [if_neg e]

section
variable {d : DK} {r : RD}
theorem Sim.all (h : Sim d r) : NSim (orF d.kept d.names) r.all := by
  have h1 := all_sim h.kept r.names d.kept r.kept h.kept fun p hp => h.names.lo p.1 p.2 ((h.names.iff p.1 p.2).2 hp)
  have e : r.names.foldl (allG d.kept) d.kept = orF d.kept d.names := by
    funext x
    obtain ⟨g1, g2⟩ := all_fun (kept := d.kept) r.names d.kept h.names.rise x
    unfold orF
    cases hk : d.kept x with
    | some v => rw [g2 (.inl (by rw [hk]; simp)), hk]
    | none =>
      cases hn : d.names x with
      | some v => exact g1 hk v ((h.names.iff x v).1 hn)
      | none => rw [g2 (.inr fun v hv => by rw [(h.names.iff x v).2 hv] at hn; cases hn), hk]
  rw [e] at h1
  unfold RD.all allF
  rw [List.take_length]
  exact h1

theorem Sim.all_keys (h : Sim d r) : KeyList (orF d.kept d.names) (r.all.map (·.1)) := ⟨h.all.keys, h.all.key_iff⟩

/-- What holds of the names that are kept. -/
structure KeepSim (d : DK) (a : Int × (ByteArray → Option Int)) (b : Int × List (ByteArray × Int)) : Prop where
  num : a.1 = b.1
  sim : NSim a.2 b.2
  file : ∀ x v, a.2 x = some v → d.files v ≠ none

theorem Sim.keep_one (h : Sim d r) (L : Int) {a : Int × (ByteArray → Option Int)} {b : Int × List (ByteArray × Int)} (hs : KeepSim d a b) (p : ByteArray × Int) (hp : ∀ q ∈ b.2, Lt q.1 p.1) :
    KeepSim d (keepName d L a p.1) (linkKeep r.kept r.names L b p) ∧ ∀ q ∈ (linkKeep r.kept r.names L b p).2, q ∈ b.2 ∨ q.1 = p.1 := by
  have key : ∀ (c : Prop) [Decidable c] (o : Option Int) (z i : Int), z = o.getD 0 → (∀ v, o = some v → 1 ≤ v ∧ d.files v ≠ none) →
      KeepSim d (i, match o with | some v => upd a.2 p.1 v | none => a.2) (i, if z = 0 then b.2 else b.2 ++ [(p.1, z)]) ∧ ∀ q ∈ (if z = 0 then b.2 else b.2 ++ [(p.1, z)]), q ∈ b.2 ∨ q.1 = p.1 := by
    intro c _ o z i hz ho
    cases o with
    | none =>
      simp only [Option.getD_none] at hz
      subst hz
      exact ⟨⟨rfl, hs.sim, hs.file⟩, fun q hq => .inl (by simpa using hq)⟩
    | some v =>
      simp only [Option.getD_some] at hz
      subst hz
      obtain ⟨h1, h2⟩ := ho _ rfl
      rw [if_neg (show ¬ z = 0 by omega)]
      refine ⟨⟨rfl, hs.sim.snoc h1 hp, fun x u hx => ?_⟩, fun q hq => ?_⟩
      · by_cases e : x = p.1
        · simp [upd, e] at hx
          rw [← hx]; exact h2
        · simp [upd, e] at hx
          exact hs.file x u hx
      · rw [List.mem_append, List.mem_singleton] at hq
        rcases hq with hq | rfl
        · exact .inl hq
        · exact .inr rfl
  have hc : (d.kept p.1 ≠ d.names p.1) ↔ (findL r.kept p.1 ≠ findL r.names p.1) := by
    rw [h.kept.find, h.names.find]
    cases hk : d.kept p.1 with
    | none =>
      cases hn : d.names p.1 with
      | none => simp
      | some v => have := h.names.lo _ _ hn; simp; omega
    | some u =>
      have := h.kept.lo _ _ hk
      cases hn : d.names p.1 with
      | none => simp; omega
      | some v => simp
  have hok : ∀ v, d.kept p.1 = some v → 1 ≤ v ∧ d.files v ≠ none := fun v hv => ⟨h.kept.lo _ _ hv, h.kf _ _ hv⟩
  have hon : ∀ v, d.names p.1 = some v → 1 ≤ v ∧ d.files v ≠ none := fun v hv => ⟨h.names.lo _ _ hv, h.nf _ _ hv⟩
  unfold keepName linkKeep
  simp only [hc, hs.num]
  by_cases h1 : findL r.kept p.1 ≠ findL r.names p.1
  · simp only [if_pos h1]
    by_cases h2 : mixI (IntKind.u64.wrap L) (b.1 + 1) % 2 = 1
    · simp only [if_pos (show findL r.kept p.1 ≠ findL r.names p.1 ∧ mixI (IntKind.u64.wrap L) (b.1 + 1) % 2 = 1 from ⟨h1, h2⟩)]
      exact key True _ _ _ (h.names.find p.1) hon
    · simp only [if_neg (show ¬ (findL r.kept p.1 ≠ findL r.names p.1 ∧ mixI (IntKind.u64.wrap L) (b.1 + 1) % 2 = 1) from fun k => h2 k.2)]
      exact key True _ _ _ (h.kept.find p.1) hok
  · simp only [if_neg h1, if_neg (show ¬ (findL r.kept p.1 ≠ findL r.names p.1 ∧ mixI (IntKind.u64.wrap L) b.1 % 2 = 1) from fun k => h1 k.1)]
    exact key True _ _ _ (h.kept.find p.1) hok

theorem Sim.keep_many (h : Sim d r) (L : Int) : ∀ (ps : List (ByteArray × Int)) (a : Int × (ByteArray → Option Int)) (b : Int × List (ByteArray × Int)), KeepSim d a b → ps.Pairwise (fun x y => Lt x.1 y.1) → (∀ q ∈ b.2, ∀ p ∈ ps, Lt q.1 p.1) →
    KeepSim d ((ps.map (·.1)).foldl (keepName d L) a) (ps.foldl (linkKeep r.kept r.names L) b)
  | [], a, b, hs, _, _ => hs
  | p :: ps, a, b, hs, hp, hb => by
    rw [List.pairwise_cons] at hp
    rw [List.map_cons, List.foldl_cons, List.foldl_cons]
    obtain ⟨k1, k2⟩ := h.keep_one L hs p fun q hq => hb q hq p List.mem_cons_self
    refine h.keep_many L ps _ _ k1 hp.2 fun q hq t ht => ?_
    rcases k2 q hq with e | e
    · exact hb q e t (List.mem_cons_of_mem _ ht)
    · rw [e]; exact hp.1 t ht

theorem Sim.left (h : Sim d r) (L : Int) : KeepSim d ((r.all.map (·.1)).foldl (keepName d L) (0, fun _ => none)) (r.left L) := by
  unfold RD.left RD.keepL
  rw [List.take_length]
  exact h.keep_many L r.all _ _ ⟨rfl, NSim.new, (fun x v hx => by cases hx)⟩ h.all.rise (fun q hq => by cases hq)

/-- What holds of the files that are kept. -/
structure FileSim (d : DK) (a : Int × (Int → Option (ByteArray × Int))) (b : Int × List (Int × ByteArray × Int)) : Prop where
  num : a.1 = b.1
  sim : FSim a.2 b.2
  old : ∀ m, a.2 m ≠ none → d.files m ≠ none

theorem Sim.file_one (h : Sim d r) (L : Int) {nm : ByteArray → Option Int} {a : Int × (Int → Option (ByteArray × Int))} {b : Int × List (Int × ByteArray × Int)} (hs : FileSim d a b) (p : ByteArray × Int) (hn : nm p.1 = some p.2) (hf : d.files p.2 ≠ none) :
    FileSim d (keepFile d nm L a p.1) (fileKeep r.files L b p) ∧ (∀ m, a.2 m ≠ none → (keepFile d nm L a p.1).2 m ≠ none) ∧ (keepFile d nm L a p.1).2 p.2 ≠ none := by
  unfold keepFile fileKeep
  simp only [hn, Option.getD_some]
  by_cases hc : a.2 p.2 = none
  · rw [if_neg (by rw [hc]; simp), if_neg (fun k => (hs.sim.place_iff p.2).1 k hc)]
    obtain ⟨f, hfv⟩ := Option.ne_none_iff_exists'.1 hf
    obtain ⟨k, hk, hkk⟩ := h.files.place_some hfv
    simp only [hfv, hk, Int.toNat_natCast, hkk, Option.getD_some, hs.num]
    have fin : ∀ (i : Int) (q : ByteArray × Int), FileSim d (i, upd a.2 p.2 q) (i, b.2 ++ [(p.2, q)]) ∧ (∀ m, a.2 m ≠ none → upd a.2 p.2 q m ≠ none) ∧ upd a.2 p.2 q p.2 ≠ none := fun i q =>
      ⟨⟨rfl, hs.sim.snoc hc q, fun m hm => by
        rcases upd_of hm with e | e
        · rw [e]; exact hf
        · exact hs.old m e⟩, fun m hm => upd_ne hm, upd_at _ _ _⟩
    by_cases h2 : (f.1.size : Int) - f.2 > 0
    · rw [if_pos h2, if_pos h2]
      exact fin _ _
    · rw [if_neg h2, if_neg h2]
      exact fin _ _
  · rw [if_pos (by simpa [Option.isSome_iff_ne_none] using hc), if_pos ((hs.sim.place_iff p.2).2 hc)]
    exact ⟨hs, fun m hm => hm, hc⟩

theorem Sim.file_many (h : Sim d r) (L : Int) {nm : ByteArray → Option Int} : ∀ (ps : List (ByteArray × Int)) (a : Int × (Int → Option (ByteArray × Int))) (b : Int × List (Int × ByteArray × Int)), FileSim d a b → (∀ p ∈ ps, nm p.1 = some p.2 ∧ d.files p.2 ≠ none) →
    FileSim d ((ps.map (·.1)).foldl (keepFile d nm L) a) (ps.foldl (fileKeep r.files L) b) ∧ (∀ m, a.2 m ≠ none → ((ps.map (·.1)).foldl (keepFile d nm L) a).2 m ≠ none) ∧ ∀ p ∈ ps, ((ps.map (·.1)).foldl (keepFile d nm L) a).2 p.2 ≠ none
  | [], a, b, hs, _ => ⟨hs, (fun m hm => hm), (fun p hp => by cases hp)⟩
  | p :: ps, a, b, hs, hp => by
    rw [List.map_cons, List.foldl_cons, List.foldl_cons]
    obtain ⟨g1, g2⟩ := hp p List.mem_cons_self
    obtain ⟨k1, k2, k3⟩ := h.file_one L hs p g1 g2
    obtain ⟨m1, m2, m3⟩ := h.file_many L (nm := nm) ps _ _ k1 fun q hq => hp q (List.mem_cons_of_mem _ hq)
    refine ⟨m1, fun m hm => m2 m (k2 m hm), fun q hq => ?_⟩
    rcases List.mem_cons.1 hq with rfl | hq
    · exact m2 _ k3
    · exact m3 q hq

theorem Sim.restart (h : Sim d r) (L : Int) {d' : DK} (hd : d.Restarts L d') : Sim d' (r.restart L) := by
  obtain ⟨l1, l2, h1, h2, rfl⟩ := hd
  have e1 := h.all.unique h1
  subst e1
  have hl := h.left L
  generalize (List.map (fun x => x.1) r.all).foldl (keepName d L) (0, fun _ => none) = A at *
  have e2 := hl.sim.unique h2
  subst e2
  have hps : ∀ p ∈ (r.left L).2, A.2 p.1 = some p.2 ∧ d.files p.2 ≠ none := fun p hp => by
    have := (hl.sim.iff p.1 p.2).2 hp
    exact ⟨this, hl.file _ _ this⟩
  obtain ⟨f1, f2, f3⟩ := h.file_many L (nm := A.2) (r.left L).2 (A.1, fun _ => none) ((r.left L).1, []) ⟨hl.num, FSim.new, fun m hm => absurd rfl hm⟩ hps
  have e3 : r.keepF L (r.left L).2.length = (r.left L).2.foldl (fileKeep r.files L) ((r.left L).1, []) := by
    unfold RD.keepF
    rw [List.take_length]
  unfold RD.restart
  rw [e3]
  have hnf : ∀ x v, A.2 x = some v → (List.foldl (keepFile d A.2 L) (A.1, fun _ => none) (List.map (fun x => x.1) (r.left L).2)).2 v ≠ none := fun x v hx => f3 (x, v) ((hl.sim.iff x v).1 hx)
  exact ⟨f1.sim, hl.sim, hl.sim, fun m hm => h.hi m (f1.old m hm), hnf, hnf, h.last, h.steps, rfl, h.fault, rfl⟩

theorem Sim.left_placed (h : Sim d r) (L : Int) (p : ByteArray × Int) (hp : p ∈ (r.left L).2) : 0 ≤ placeL r.files p.2 0 := by
  have hl := h.left L
  exact (h.files.place_iff p.2).2 (hl.file p.1 p.2 ((hl.sim.iff p.1 p.2).2 hp))
end
end Go.Proofs.Ytmjlbpgngahgmaa
