/- The plain law of the two disks, part 2: each change, and what is read, is alike. No conditions. -/
import Derived.Test.YtmjlbpgngahgmaaSim1
namespace Go.Proofs.Ytmjlbpgngahgmaa
open Go.RowKit

structure Sim (d : DK) (r : RD) : Prop where
  files : FSim d.files r.files
  names : NSim d.names r.names
  kept : NSim d.kept r.kept
  hi : ∀ m, d.files m ≠ none → m ≤ d.last
  nf : ∀ x v, d.names x = some v → d.files v ≠ none
  kf : ∀ x v, d.kept x = some v → d.files v ≠ none
  last : d.last = r.last
  steps : d.steps = r.steps
  armed : d.armed = r.armed
  fault : d.fault = r.fault
  down : d.down = r.down

theorem Sim.new : Sim DK.new RD.new := ⟨FSim.new, NSim.new, NSim.new, (fun m h => absurd rfl h), (fun x v h => by cases h), (fun x v h => by cases h), rfl, rfl, rfl, rfl, rfl⟩

theorem may_first (b : Bool) (x : ByteArray) : mayE b [x] = firstE b (nameB x) := by simp [mayE, firstE]
theorem may_first2 (b : Bool) (x y : ByteArray) : mayE b [x, y] = firstE b (nameB x && nameB y) := by simp [mayE, firstE]
theorem may_first0 (b : Bool) : mayE b [] = firstE b true := by simp [mayE, firstE]

theorem upd_ne {κ β : Type} [DecidableEq κ] {f : κ → Option β} {k q : κ} {v : β} (h : f q ≠ none) : upd f k v q ≠ none := by
  unfold upd
  split
  · simp
  · exact h
theorem upd_at {κ β : Type} [DecidableEq κ] (f : κ → Option β) (k : κ) (v : β) : upd f k v k ≠ none := by simp [upd]
theorem upd_of {κ β : Type} [DecidableEq κ] {f : κ → Option β} {k q : κ} {v : β} (h : upd f k v q ≠ none) : q = k ∨ f q ≠ none := by
  unfold upd at h
  split at h
  · exact .inl ‹_›
  · exact .inr h

section
variable {d : DK} {r : RD}
theorem Sim.stepE (h : Sim d r) : d.stepE = r.stepE := by
  unfold DK.stepE RD.stepE
  rw [h.armed, h.fault]
theorem Sim.step (h : Sim d r) : Sim d.step r.step := by
  unfold DK.step RD.step
  by_cases e : d.armed = 0
  · rw [if_pos e, if_pos (h.armed.symm.trans e)]
    exact ⟨h.files, h.names, h.kept, h.hi, h.nf, h.kf, h.last, h.steps, rfl, h.fault, by show (d.fault == 15) = (r.fault == 15); rw [h.fault]⟩
  · rw [if_neg e, if_neg (fun k => e (h.armed.trans k))]
    exact ⟨h.files, h.names, h.kept, h.hi, h.nf, h.kf, h.last, by show d.steps + 1 = r.steps + 1; rw [h.steps], by show max (-1) (d.armed - 1) = max (-1) (r.armed - 1); rw [h.armed], h.fault, h.down⟩

theorem Sim.create (h : Sim d r) (h0 : 0 ≤ d.last) (x : ByteArray) : (d.create x).1 = (r.create x).1 ∧ Sim (d.create x).2 (r.create x).2 := by
  have S := h.step
  unfold DK.create RD.create
  rw [may_first, h.down, h.stepE]
  by_cases h1 : firstE r.down (nameB x) ≠ 0
  · rw [if_pos h1, if_pos h1]; exact ⟨rfl, h⟩
  · rw [if_neg h1, if_neg h1]
    by_cases h2 : r.stepE ≠ 0
    · rw [if_pos h2, if_pos h2]; exact ⟨rfl, S⟩
    · rw [if_neg h2, if_neg h2]
      have hl : 0 ≤ d.step.last := by rw [DK.step_last]; exact h0
      have hno : d.step.files (d.step.last + 1) = none := by
        cases hf : d.step.files (d.step.last + 1) with
        | none => rfl
        | some p =>
          have := S.hi _ (by rw [hf]; simp)
          omega
      refine ⟨rfl, ?_⟩
      rw [← S.last]
      refine ⟨S.files.snoc hno _, S.names.put x (by omega), S.kept, fun m hm => ?_, fun y v hy => ?_, fun y v hy => upd_ne (S.kf y v hy), rfl, S.steps, S.armed, S.fault, S.down⟩
      · show m ≤ d.step.last + 1
        rcases upd_of hm with e | e
        · omega
        · have := S.hi m e; omega
      · show upd d.step.files (d.step.last + 1) _ v ≠ none
        by_cases e : y = x
        · have hv : upd d.step.names x (d.step.last + 1) y = some v := hy
          rw [e] at hv
          simp [upd] at hv
          rw [← hv]
          exact upd_at _ _ _
        · have hv : upd d.step.names x (d.step.last + 1) y = some v := hy
          simp [upd, e] at hv
          exact upd_ne (S.nf y v hv)

theorem Sim.setFile (S : Sim d r) {m : Int} {k : Nat} {p : ByteArray × Int} (hk : r.files[k]? = some (m, p)) (hp : d.files m = some p) (q : ByteArray × Int) :
    Sim { d with files := upd d.files m q } { r with files := r.files.set k (m, q) } := by
  refine ⟨S.files.set hk q, S.names, S.kept, fun j hj => ?_, fun y v hy => upd_ne (S.nf y v hy), fun y v hy => upd_ne (S.kf y v hy), S.last, S.steps, S.armed, S.fault, S.down⟩
  rcases upd_of hj with e | e
  · rw [e]; exact S.hi m (by rw [hp]; simp)
  · exact S.hi j e

theorem Sim.change (h : Sim d r) (x y : ByteArray) (sync : Bool) (g : ByteArray × Int → ByteArray × Int) (hg : ∀ p, g p = (p.1 ++ y, if sync then ((p.1 ++ y).size : Int) else p.2)) :
    (d.change x g).1 = (r.change x y sync).1 ∧ Sim (d.change x g).2 (r.change x y sync).2 := by
  have S := h.step
  unfold DK.change RD.change
  rw [may_first, h.down, h.stepE]
  by_cases h1 : firstE r.down (nameB x) ≠ 0
  · rw [if_pos h1, if_pos h1]; exact ⟨rfl, h⟩
  · rw [if_neg h1, if_neg h1]
    cases hx : d.names x with
    | none =>
      rw [if_pos (h.names.find_none hx)]
      exact ⟨rfl, h⟩
    | some m =>
      have hm := h.names.lo x m hx
      rw [h.names.find_some hx, if_neg (show ¬ m = 0 by omega)]
      simp only
      by_cases h2 : r.stepE ≠ 0
      · rw [if_pos h2, if_pos h2]; exact ⟨rfl, S⟩
      · rw [if_neg h2, if_neg h2]
        obtain ⟨p, hp⟩ := Option.ne_none_iff_exists'.1 (h.nf x m hx)
        have hp' : d.step.files m = some p := by rw [DK.step_files]; exact hp
        obtain ⟨k, hk, hkk⟩ := S.files.place_some hp'
        refine ⟨rfl, ?_⟩
        have e : chF r.step.files m y sync = r.step.files.set k (m, g p) := by
          unfold chF
          rw [hk, Int.toNat_natCast, hkk, hg]
        rw [e, hp']
        exact S.setFile hkk hp' (g p)

theorem addF_eq (y : ByteArray) (p : ByteArray × Int) : addF y p = (p.1 ++ y, if false then ((p.1 ++ y).size : Int) else p.2) := rfl
theorem append_none (a : ByteArray) : a ++ (⟨#[]⟩ : ByteArray) = a := by
  apply ByteArray.ext
  simp
theorem sureF_eq (p : ByteArray × Int) : sureF p = (p.1 ++ (⟨#[]⟩ : ByteArray), if true then ((p.1 ++ (⟨#[]⟩ : ByteArray)).size : Int) else p.2) := by
  rw [append_none]; rfl
theorem Sim.append (h : Sim d r) (x y : ByteArray) : (d.change x (addF y)).1 = (r.change x y false).1 ∧ Sim (d.change x (addF y)).2 (r.change x y false).2 := h.change x y false _ (addF_eq y)
theorem Sim.sync (h : Sim d r) (x : ByteArray) : (d.change x sureF).1 = (r.change x ⟨#[]⟩ true).1 ∧ Sim (d.change x sureF).2 (r.change x ⟨#[]⟩ true).2 := h.change x _ true _ sureF_eq

theorem Sim.remove (h : Sim d r) (x : ByteArray) : (d.remove x).1 = (r.remove x).1 ∧ Sim (d.remove x).2 (r.remove x).2 := by
  have S := h.step
  unfold DK.remove RD.remove
  rw [may_first, h.down, h.stepE]
  by_cases h1 : firstE r.down (nameB x) ≠ 0
  · rw [if_pos h1, if_pos h1]; exact ⟨rfl, h⟩
  · rw [if_neg h1, if_neg h1]
    cases hx : d.names x with
    | none =>
      rw [if_pos (h.names.find_none hx)]
      exact ⟨rfl, h⟩
    | some m =>
      have hm := h.names.lo x m hx
      rw [h.names.find_some hx, if_neg (show ¬ m = 0 by omega)]
      simp only
      by_cases h2 : r.stepE ≠ 0
      · rw [if_pos h2, if_pos h2]; exact ⟨rfl, S⟩
      · rw [if_neg h2, if_neg h2]
        refine ⟨rfl, S.files, S.names.drop x, S.kept, S.hi, fun y v hy => ?_, S.kf, S.last, S.steps, S.armed, S.fault, S.down⟩
        have hv : del d.step.names x y = some v := hy
        by_cases e : y = x
        · simp [del, e] at hv
        · simp [del, e] at hv
          exact S.nf y v hv

theorem Sim.rename (h : Sim d r) (x y : ByteArray) : (d.rename x y).1 = (r.rename x y).1 ∧ Sim (d.rename x y).2 (r.rename x y).2 := by
  have S := h.step
  unfold DK.rename RD.rename
  rw [may_first2, h.down, h.stepE]
  by_cases h1 : firstE r.down (nameB x && nameB y) ≠ 0
  · rw [if_pos h1, if_pos h1]; exact ⟨rfl, h⟩
  · rw [if_neg h1, if_neg h1]
    cases hx : d.names x with
    | none =>
      rw [if_pos (h.names.find_none hx)]
      exact ⟨rfl, h⟩
    | some m =>
      have hm := h.names.lo x m hx
      rw [h.names.find_some hx, if_neg (show ¬ m = 0 by omega)]
      simp only
      by_cases h2 : r.stepE ≠ 0
      · rw [if_pos h2, if_pos h2]; exact ⟨rfl, S⟩
      · rw [if_neg h2, if_neg h2]
        have hx' : d.step.names x = some m := by rw [DK.step_names]; exact hx
        refine ⟨rfl, S.files, (S.names.drop x).put y hm, S.kept, S.hi, fun z v hz => ?_, S.kf, S.last, S.steps, S.armed, S.fault, S.down⟩
        have hv : upd (del d.step.names x) y m z = some v := hz
        by_cases e : z = y
        · simp [upd, e] at hv
          rw [← hv]
          exact S.nf x m hx'
        · simp [upd, e] at hv
          by_cases e' : z = x
          · simp [del, e'] at hv
          · simp [del, e'] at hv
            exact S.nf z v hv

theorem Sim.syncDir (h : Sim d r) : d.syncDir.1 = r.syncDir.1 ∧ Sim d.syncDir.2 r.syncDir.2 := by
  have S := h.step
  unfold DK.syncDir RD.syncDir
  rw [may_first0, h.down, h.stepE]
  by_cases h1 : firstE r.down true ≠ 0
  · rw [if_pos h1, if_pos h1]; exact ⟨rfl, h⟩
  · rw [if_neg h1, if_neg h1]
    by_cases h2 : r.stepE ≠ 0
    · rw [if_pos h2, if_pos h2]; exact ⟨rfl, S⟩
    · rw [if_neg h2, if_neg h2]
      exact ⟨rfl, S.files, S.names, S.names, S.hi, S.nf, S.nf, S.last, S.steps, S.armed, S.fault, S.down⟩

theorem Sim.arm (h : Sim d r) (n e : Int) : Sim (d.arm n e) (r.arm n e) := by
  unfold DK.arm RD.arm
  by_cases hc : n < 0 ∨ (e ≠ 14 ∧ e ≠ 13 ∧ e ≠ 15)
  · rw [if_pos hc, if_pos hc]; exact h
  · rw [if_neg hc, if_neg hc]
    exact ⟨h.files, h.names, h.kept, h.hi, h.nf, h.kf, h.last, h.steps, rfl, rfl, h.down⟩
theorem Sim.calm (h : Sim d r) : Sim { d with armed := -1 } { r with armed := -1 } := ⟨h.files, h.names, h.kept, h.hi, h.nf, h.kf, h.last, h.steps, rfl, h.fault, h.down⟩

theorem Sim.read (h : Sim d r) (x : ByteArray) : d.read x = r.read x := by
  unfold DK.read RD.read
  rw [may_first, h.down]
  by_cases h1 : firstE r.down (nameB x) ≠ 0
  · rw [if_pos h1, if_pos h1]
  · rw [if_neg h1, if_neg h1]
    cases hx : d.names x with
    | none => rw [if_pos (h.names.find_none hx)]
    | some m =>
      have hm := h.names.lo x m hx
      rw [h.names.find_some hx, if_neg (show ¬ m = 0 by omega)]
      simp only
      obtain ⟨p, hp⟩ := Option.ne_none_iff_exists'.1 (h.nf x m hx)
      obtain ⟨k, hk, hkk⟩ := h.files.place_some hp
      rw [hk, Int.toNat_natCast, hkk, hp]
      rfl
theorem Sim.list (h : Sim d r) {l : List ByteArray} (hl : d.Lists l) : l = r.list := by
  unfold DK.Lists at hl
  unfold RD.list
  rw [← h.down]
  cases hd : d.down with
  | true => rw [hd] at hl; simpa using hl
  | false =>
    rw [hd] at hl
    simp only [Bool.false_eq_true, if_false] at hl ⊢
    exact h.names.unique hl
theorem Sim.placed (h : Sim d r) (x : ByteArray) (hx : findL r.names x ≠ 0) : 0 ≤ placeL r.files (findL r.names x) 0 := by
  cases hn : d.names x with
  | none => exact absurd (h.names.find_none hn) hx
  | some v =>
    rw [h.names.find_some hn]
    exact (h.files.place_iff v).2 (h.nf x v hn)
theorem Sim.small {n : Nat} (h : Sim d r) (hf : FilesOk n d.files) (p : Int × ByteArray × Int) (hp : p ∈ r.files) : p.2.1.size ≤ n * 67108864 ∧ 0 ≤ p.2.2 ∧ p.2.2 ≤ p.2.1.size :=
  hf p.1 p.2 ((h.files.iff p.1 p.2).2 hp)
end
end Go.Proofs.Ytmjlbpgngahgmaa
