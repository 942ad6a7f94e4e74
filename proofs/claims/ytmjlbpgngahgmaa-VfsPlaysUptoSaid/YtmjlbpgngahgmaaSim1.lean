/- The plain law of the two disks, part 1: lists of names and of files against partial functions. No conditions. -/
import Derived.Test.YtmjlbpgngahgmaaRef8a
import Derived.Lib.Strings
namespace Go.Proofs.Ytmjlbpgngahgmaa
open Go.RowKit

/-! ### the order of names -/
def Lt (a b : ByteArray) : Prop := a.data.toList < b.data.toList
theorem Lt.trans {a b c : ByteArray} (h : Lt a b) (k : Lt b c) : Lt a c := List.lt_trans h k
theorem Lt.irrefl (a : ByteArray) : ¬ Lt a a := List.lt_irrefl _
theorem Lt.ne {a b : ByteArray} (h : Lt a b) : a ≠ b := fun e => Lt.irrefl b (by rw [e] at h; exact h)
theorem lt_or (a b : ByteArray) (hne : a ≠ b) (h : ¬ Lt a b) : Lt b a := by
  rcases Decidable.em (b.data.toList < a.data.toList) with hl | hl
  · exact hl
  · exact absurd (List.le_antisymm (by exact hl) (by exact h)) (fun e => hne (Go.WideShapes.bytes_inj e))
theorem bytesLess_lt (x y : ByteArray) : Op.bytesLess x.toList y.toList = true ↔ Lt x y := by
  have key : ∀ (x y : List UInt8), Op.bytesLess x y = decide (x < y) := by
    intro x
    induction x with
    | nil => intro y; cases y <;> simp [Op.bytesLess]
    | cons a x ih =>
      intro y
      cases y with
      | nil => simp [Op.bytesLess]
      | cons b y =>
        rw [Op.bytesLess, ih y]
        simp only [List.cons_lt_cons_iff]
        by_cases h1 : a < b <;> by_cases h2 : a = b <;> by_cases h3 : x < y <;> simp [h1, h2, h3]
  rw [key, ByteArray.toList_eq, ByteArray.toList_eq, decide_eq_true_iff]
  rfl

/-- Two rising lists of the same members are one. -/
theorem rising_unique : ∀ (l m : List ByteArray), l.Pairwise Lt → m.Pairwise Lt → (∀ x, x ∈ l ↔ x ∈ m) → l = m
  | [], [], _, _, _ => rfl
  | [], b :: m, _, _, h => by have := (h b).2 List.mem_cons_self; cases this
  | a :: l, [], _, _, h => by have := (h a).1 List.mem_cons_self; cases this
  | a :: l, b :: m, hl, hm, h => by
    rw [List.pairwise_cons] at hl hm
    have hab : a = b := by
      rcases List.mem_cons.1 ((h a).1 List.mem_cons_self) with e | e
      · exact e
      · rcases List.mem_cons.1 ((h b).2 List.mem_cons_self) with e' | e'
        · exact e'.symm
        · exact absurd ((hl.1 b e').trans (hm.1 a e)) (Lt.irrefl _)
    subst hab
    rw [rising_unique l m hl.2 hm.2 fun x => ?_]
    have := h x
    simp only [List.mem_cons] at this
    constructor
    · intro hx
      rcases this.1 (.inr hx) with e | e
      · subst e; exact absurd (hl.1 x hx) (Lt.irrefl _)
      · exact e
    · intro hx
      rcases this.2 (.inr hx) with e | e
      · subst e; exact absurd (hm.1 x hx) (Lt.irrefl _)
      · exact e

/-! ### names -/
structure NSim (f : ByteArray → Option Int) (l : List (ByteArray × Int)) : Prop where
  rise : l.Pairwise (fun a b => Lt a.1 b.1)
  iff : ∀ x v, f x = some v ↔ (x, v) ∈ l
  lo : ∀ x v, f x = some v → 1 ≤ v

theorem NSim.new : NSim (fun _ => none) [] := ⟨List.Pairwise.nil, fun x v => by simp, fun x v h => by cases h⟩

theorem findL_mem : ∀ (l : List (ByteArray × Int)) (x : ByteArray) (v : Int), l.Pairwise (fun a b => Lt a.1 b.1) → (x, v) ∈ l → findL l x = v
  | p :: r, x, v, hp, h => by
    rw [List.pairwise_cons] at hp
    unfold findL
    rcases List.mem_cons.1 h with e | e
    · subst e; rw [if_pos rfl]
    · rw [if_neg (fun e' => Lt.irrefl x (by have := hp.1 _ e; rw [e'] at this; exact this))]
      exact findL_mem r x v hp.2 e
theorem findL_none : ∀ (l : List (ByteArray × Int)) (x : ByteArray), (∀ v, (x, v) ∉ l) → findL l x = 0
  | [], x, h => rfl
  | p :: r, x, h => by
    unfold findL
    rw [if_neg (fun e => h p.2 (by rw [← e]; exact List.mem_cons_self))]
    exact findL_none r x fun v hv => h v (List.mem_cons_of_mem _ hv)

section
variable {f : ByteArray → Option Int} {l : List (ByteArray × Int)}
theorem NSim.find_some (h : NSim f l) {x : ByteArray} {v : Int} (hx : f x = some v) : findL l x = v := findL_mem l x v h.rise ((h.iff x v).1 hx)
theorem NSim.find_none (h : NSim f l) {x : ByteArray} (hx : f x = none) : findL l x = 0 := findL_none l x fun v hv => by
  have := (h.iff x v).2 hv
  rw [hx] at this
  cases this
theorem NSim.find (h : NSim f l) (x : ByteArray) : findL l x = (f x).getD 0 := by
  cases hx : f x with
  | none => exact h.find_none hx
  | some v => exact h.find_some hx
theorem NSim.zero (h : NSim f l) (x : ByteArray) : findL l x = 0 ↔ f x = none := by
  rw [h.find]
  cases hx : f x with
  | none => simp
  | some v => have := h.lo x v hx; simp; omega
theorem NSim.keys (h : NSim f l) : (l.map (·.1)).Pairwise Lt := List.pairwise_map.2 h.rise
theorem NSim.key_iff (h : NSim f l) (x : ByteArray) : x ∈ l.map (·.1) ↔ f x ≠ none := by
  rw [List.mem_map]
  constructor
  · rintro ⟨p, hp, rfl⟩ e
    have := (h.iff p.1 p.2).2 hp
    rw [e] at this
    cases this
  · intro hx
    obtain ⟨v, hv⟩ := Option.ne_none_iff_exists'.1 hx
    exact ⟨(x, v), (h.iff x v).1 hv, rfl⟩
theorem NSim.unique (h : NSim f l) {m : List ByteArray} (hm : KeyList f m) : m = l.map (·.1) :=
  rising_unique _ _ hm.rising h.keys fun x => (hm.mem x).trans (h.key_iff x).symm
end

/-- A name is put in. -/
def insL (x : ByteArray) (n : Int) : List (ByteArray × Int) → List (ByteArray × Int)
  | [] => [(x, n)]
  | p :: r => if p.1 = x then insL x n r else if Op.bytesLess x.toList p.1.toList = true then (x, n) :: p :: r.filter (fun q => decide (q.1 ≠ x)) else p :: insL x n r

theorem linkStep_skip {x : ByteArray} {n : Int} {s : List (ByteArray × Int) × Bool} {p : ByteArray × Int} (e : p.1 = x) : linkStep x n s p = s := by unfold linkStep; rw [if_pos e]
theorem linkStep_put {x : ByteArray} {n : Int} {acc : List (ByteArray × Int)} {p : ByteArray × Int} (e : p.1 ≠ x) (h : Op.bytesLess x.toList p.1.toList = true) : linkStep x n (acc, false) p = ((acc ++ [(x, n)]) ++ [p], true) := by unfold linkStep; rw [if_neg e, if_pos ⟨rfl, h⟩]
theorem linkStep_keep {x : ByteArray} {n : Int} {s : List (ByteArray × Int) × Bool} {p : ByteArray × Int} (e : p.1 ≠ x) (h : ¬ (s.2 = false ∧ Op.bytesLess x.toList p.1.toList = true)) : linkStep x n s p = (s.1 ++ [p], s.2) := by unfold linkStep; rw [if_neg e, if_neg h]
theorem link_true (x : ByteArray) (n : Int) : ∀ (l acc : List (ByteArray × Int)), l.foldl (linkStep x n) (acc, true) = (acc ++ l.filter (fun q => decide (q.1 ≠ x)), true)
  | [], acc => by simp
  | p :: r, acc => by
    rw [List.foldl_cons]
    by_cases e : p.1 = x
    · rw [linkStep_skip e, link_true x n r acc]
      simp [e]
    · rw [linkStep_keep e (by simp), link_true x n r]
      simp [e]
theorem link_false (x : ByteArray) (n : Int) : ∀ (l acc : List (ByteArray × Int)), (if (l.foldl (linkStep x n) (acc, false)).2 then (l.foldl (linkStep x n) (acc, false)).1 else (l.foldl (linkStep x n) (acc, false)).1 ++ [(x, n)]) = acc ++ insL x n l
  | [], acc => by simp [insL]
  | p :: r, acc => by
    rw [List.foldl_cons]
    unfold insL
    by_cases e : p.1 = x
    · rw [linkStep_skip e, if_pos e]
      exact link_false x n r acc
    · rw [if_neg e]
      by_cases hb : Op.bytesLess x.toList p.1.toList = true
      · rw [linkStep_put e hb, if_pos hb, link_true]
        simp
      · rw [linkStep_keep e (fun h => hb h.2), if_neg hb]
        have := link_false x n r (acc ++ [p])
        rw [List.append_assoc] at this
        exact this
theorem linkL_zero (l : List (ByteArray × Int)) (x : ByteArray) : linkL l x 0 = l.filter (fun q => decide (q.1 ≠ x)) := by
  unfold linkL linkF
  rw [List.take_length]
  have : ((0 : Int) == 0) = true := rfl
  rw [this, link_true]
  simp
theorem linkL_pos (l : List (ByteArray × Int)) (x : ByteArray) {n : Int} (h : 1 ≤ n) : linkL l x n = insL x n l := by
  unfold linkL linkF
  rw [List.take_length]
  have : (n == 0) = false := by rw [beq_eq_false_iff_ne]; omega
  rw [this]
  have := link_false x n l []
  simpa using this

theorem insL_mem (x : ByteArray) (n : Int) : ∀ (l : List (ByteArray × Int)) (q : ByteArray × Int), q ∈ insL x n l ↔ q = (x, n) ∨ (q.1 ≠ x ∧ q ∈ l)
  | [], q => by simp [insL]
  | p :: r, q => by
    unfold insL
    by_cases e : p.1 = x
    · rw [if_pos e, insL_mem x n r q, List.mem_cons]
      constructor
      · rintro (h | ⟨h, h'⟩)
        · exact .inl h
        · exact .inr ⟨h, .inr h'⟩
      · rintro (h | ⟨h, rfl | h'⟩)
        · exact .inl h
        · exact absurd e h
        · exact .inr ⟨h, h'⟩
    · rw [if_neg e]
      by_cases hb : Op.bytesLess x.toList p.1.toList = true
      · rw [if_pos hb, List.mem_cons, List.mem_cons, List.mem_filter, List.mem_cons]
        simp only [decide_eq_true_eq]
        constructor
        · rintro (h | rfl | ⟨h, h'⟩)
          · exact .inl h
          · exact .inr ⟨e, .inl rfl⟩
          · exact .inr ⟨h', .inr h⟩
        · rintro (h | ⟨h, rfl | h'⟩)
          · exact .inl h
          · exact .inr (.inl rfl)
          · exact .inr (.inr ⟨h', h⟩)
      · rw [if_neg hb, List.mem_cons, insL_mem x n r q, List.mem_cons]
        constructor
        · rintro (rfl | h | ⟨h, h'⟩)
          · exact .inr ⟨e, .inl rfl⟩
          · exact .inl h
          · exact .inr ⟨h, .inr h'⟩
        · rintro (h | ⟨h, rfl | h'⟩)
          · exact .inr (.inl h)
          · exact .inl rfl
          · exact .inr (.inr ⟨h, h'⟩)
theorem insL_rise (x : ByteArray) (n : Int) : ∀ (l : List (ByteArray × Int)), l.Pairwise (fun a b => Lt a.1 b.1) → (insL x n l).Pairwise (fun a b => Lt a.1 b.1)
  | [], _ => by simp [insL]
  | p :: r, h => by
    rw [List.pairwise_cons] at h
    unfold insL
    by_cases e : p.1 = x
    · rw [if_pos e]
      exact insL_rise x n r h.2
    · rw [if_neg e]
      by_cases hb : Op.bytesLess x.toList p.1.toList = true
      · rw [if_pos hb, List.pairwise_cons, List.pairwise_cons]
        have hx : Lt x p.1 := (bytesLess_lt x p.1).1 hb
        refine ⟨fun q hq => ?_, fun q hq => h.1 q (List.mem_filter.1 hq).1, h.2.filter _⟩
        rcases List.mem_cons.1 hq with rfl | hq
        · exact hx
        · exact hx.trans (h.1 q (List.mem_filter.1 hq).1)
      · rw [if_neg hb, List.pairwise_cons]
        refine ⟨fun q hq => ?_, insL_rise x n r h.2⟩
        rcases (insL_mem x n r q).1 hq with rfl | ⟨_, hq⟩
        · exact lt_or x p.1 (fun e' => e e'.symm) (fun hl => hb ((bytesLess_lt x p.1).2 hl))
        · exact h.1 q hq

section
variable {f : ByteArray → Option Int} {l : List (ByteArray × Int)}
theorem NSim.put (h : NSim f l) (x : ByteArray) {n : Int} (hn : 1 ≤ n) : NSim (upd f x n) (linkL l x n) := by
  rw [linkL_pos l x hn]
  refine ⟨insL_rise x n l h.rise, fun y v => ?_, fun y v hv => ?_⟩
  · rw [insL_mem]
    by_cases e : y = x
    · subst e
      simp [upd, eq_comm]
    · simp [upd, e, h.iff y v]
  · by_cases e : y = x
    · simp [upd, e] at hv; omega
    · simp [upd, e] at hv; exact h.lo y v hv
theorem NSim.drop (h : NSim f l) (x : ByteArray) : NSim (del f x) (linkL l x 0) := by
  rw [linkL_zero l x]
  refine ⟨h.rise.filter _, fun y v => ?_, fun y v hv => ?_⟩
  · rw [List.mem_filter, ← h.iff y v]
    by_cases e : y = x
    · simp [del, e]
    · simp [del, e]
  · by_cases e : y = x
    · simp [del, e] at hv
    · simp [del, e] at hv; exact h.lo y v hv
theorem NSim.snoc (h : NSim f l) {x : ByteArray} {n : Int} (hn : 1 ≤ n) (hx : ∀ p ∈ l, Lt p.1 x) : NSim (upd f x n) (l ++ [(x, n)]) := by
  have hno : f x = none := by
    cases hf : f x with
    | none => rfl
    | some v => exact absurd (hx _ ((h.iff x v).1 hf)) (Lt.irrefl _)
  refine ⟨?_, fun y v => ?_, fun y v hv => ?_⟩
  · rw [List.pairwise_append]
    refine ⟨h.rise, List.pairwise_singleton _ _, fun a ha b hb => ?_⟩
    rw [List.mem_singleton] at hb
    subst hb
    exact hx a ha
  · rw [List.mem_append, List.mem_singleton]
    by_cases e : y = x
    · subst e
      rw [← h.iff y v, hno]
      simp [upd, eq_comm]
    · simp [upd, e, h.iff y v]
  · by_cases e : y = x
    · simp [upd, e] at hv; omega
    · simp [upd, e] at hv; exact h.lo y v hv
end

/-! ### files -/
structure FSim (f : Int → Option (ByteArray × Int)) (l : List (Int × ByteArray × Int)) : Prop where
  nodup : (l.map (·.1)).Nodup
  iff : ∀ m p, f m = some p ↔ (m, p) ∈ l

theorem FSim.new : FSim (fun _ => none) [] := ⟨List.nodup_nil, fun x v => by simp⟩

theorem placeL_mem : ∀ (l : List (Int × ByteArray × Int)) (m : Int) (p : ByteArray × Int) (i : Nat), (l.map (·.1)).Nodup → (m, p) ∈ l → ∃ k : Nat, placeL l m i = i + k ∧ l[k]? = some (m, p)
  | q :: r, m, p, i, hn, h => by
    rw [List.map_cons, List.nodup_cons] at hn
    unfold placeL
    rcases List.mem_cons.1 h with e | e
    · subst e
      exact ⟨0, by rw [if_pos rfl]; simp, rfl⟩
    · rw [if_neg (fun e' => hn.1 (by rw [e']; exact List.mem_map.2 ⟨_, e, rfl⟩))]
      obtain ⟨k, h1, h2⟩ := placeL_mem r m p (i + 1) hn.2 e
      exact ⟨k + 1, by rw [h1]; omega, h2⟩
theorem placeL_none : ∀ (l : List (Int × ByteArray × Int)) (m : Int) (i : Nat), (∀ p, (m, p) ∉ l) → placeL l m i = -1
  | [], m, i, h => rfl
  | q :: r, m, i, h => by
    unfold placeL
    rw [if_neg (fun e => h q.2 (by rw [← e]; exact List.mem_cons_self))]
    exact placeL_none r m (i + 1) fun p hp => h p (List.mem_cons_of_mem _ hp)

section
variable {f : Int → Option (ByteArray × Int)} {l : List (Int × ByteArray × Int)}
theorem FSim.place_some (h : FSim f l) {m : Int} {p : ByteArray × Int} (hp : f m = some p) : ∃ k : Nat, placeL l m 0 = k ∧ l[k]? = some (m, p) := by
  obtain ⟨k, h1, h2⟩ := placeL_mem l m p 0 h.nodup ((h.iff m p).1 hp)
  exact ⟨k, by rw [h1]; simp, h2⟩
theorem FSim.place_none (h : FSim f l) {m : Int} (hp : f m = none) : placeL l m 0 = -1 := placeL_none l m 0 fun p hp' => by
  have := (h.iff m p).2 hp'
  rw [hp] at this
  cases this
theorem FSim.place_iff (h : FSim f l) (m : Int) : 0 ≤ placeL l m 0 ↔ f m ≠ none := by
  cases hp : f m with
  | none => rw [h.place_none hp]; simp
  | some p =>
    obtain ⟨k, h1, _⟩ := h.place_some hp
    rw [h1]; simp
theorem FSim.snoc (h : FSim f l) {m : Int} (hm : f m = none) (p : ByteArray × Int) : FSim (upd f m p) (l ++ [(m, p)]) := by
  refine ⟨?_, fun k q => ?_⟩
  · rw [List.map_append, List.nodup_append]
    refine ⟨h.nodup, by simp, fun a ha b hb e => ?_⟩
    simp at hb
    subst hb; subst e
    obtain ⟨q, hq, e⟩ := List.mem_map.1 ha
    have := (h.iff q.1 q.2).2 hq
    rw [e, hm] at this
    cases this
  · rw [List.mem_append, List.mem_singleton]
    by_cases e : k = m
    · subst e
      rw [← h.iff k q, hm]
      simp [upd, eq_comm]
    · simp [upd, e, h.iff k q]
theorem FSim.set (h : FSim f l) {m : Int} {k : Nat} {p : ByteArray × Int} (hk : l[k]? = some (m, p)) (q : ByteArray × Int) : FSim (upd f m q) (l.set k (m, q)) := by
  have hlt : k < l.length := (List.getElem?_eq_some_iff.1 hk).1
  have hkeys : (l.set k (m, q)).map (·.1) = l.map (·.1) := by
    rw [List.map_set]
    refine List.ext_getElem? fun i => ?_
    rw [List.getElem?_set]
    by_cases e : k = i
    · subst e
      rw [List.getElem?_map, hk]
      simp [hlt]
    · simp [e]
  refine ⟨by rw [hkeys]; exact h.nodup, fun j u => ?_⟩
  have hnd := h.nodup
  have hik : (l.map (·.1))[k]? = some m := by simp [hk]
  by_cases e : j = m
  · subst e
    simp only [upd, if_true, Option.some.injEq]
    constructor
    · rintro rfl
      exact List.mem_iff_getElem?.2 ⟨k, by simp [hlt]⟩
    · intro hm
      obtain ⟨i, hi⟩ := List.mem_iff_getElem?.1 hm
      by_cases hki : k = i
      · subst hki
        simp [hlt] at hi
        exact hi
      · rw [List.getElem?_set_ne hki] at hi
        have hii : (l.map (·.1))[i]? = some j := by simp [hi]
        have hil : i < (l.map (·.1)).length := (List.getElem?_eq_some_iff.1 hii).1
        exact absurd (((List.getElem?_inj hil hnd).1 (hii.trans hik.symm)).symm) hki
  · simp only [upd, e, if_false]
    rw [h.iff j u]
    constructor
    · intro hm
      obtain ⟨i, hi⟩ := List.mem_iff_getElem?.1 hm
      have hki : k ≠ i := by
        rintro rfl
        rw [hk] at hi
        injection hi with hi
        injection hi with hi
        exact e hi.symm
      exact List.mem_iff_getElem?.2 ⟨i, by rw [List.getElem?_set_ne hki]; exact hi⟩
    · intro hm
      obtain ⟨i, hi⟩ := List.mem_iff_getElem?.1 hm
      by_cases hki : k = i
      · subst hki
        simp [hlt] at hi
        exact absurd hi.1.symm e
      · rw [List.getElem?_set_ne hki] at hi
        exact List.mem_iff_getElem?.2 ⟨i, hi⟩
end
end Go.Proofs.Ytmjlbpgngahgmaa
