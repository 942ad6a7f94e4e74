/- Words on memory that all walks of this seat share: what stays of a world, a block known whole, a map that reads as a partial function. No conditions. -/
import Derived.WalkKit
import Derived.WalkSpells
import Derived.WalkLawsBesides
import Derived.Below
import Derived.Deep.Draws
import Derived.Laws.OwnMore
import Derived.Maps.Own
import Derived.Maps.OwnOps
import Derived.Maps.OwnSet
import Derived.Lib.Hide
namespace Go.Proofs.Ytmjlbpgngahgmaa
open Go.RowKit Go.MapKept

/-! ### what stays of a world -/

/-- From w to w' no block of w has turned but those of S; new blocks may have come. -/
structure Keeps (S : Nat → Prop) (w w' : World) : Prop where
  os : w'.os = w.os
  tape : w'.tape = w.tape
  output : w'.output = w.output
  size : w.heap.size ≤ w'.heap.size
  block : ∀ k, k < w.heap.size → ¬ S k → w'.heap[k]? = w.heap[k]?

/-- No block at all. -/
def Nil : Nat → Prop := fun _ => False
/-- One block. -/
def One (b : Nat) : Nat → Prop := fun k => k = b

section
variable {S S' T : Nat → Prop} {w w' w1 w2 : World}
theorem Keeps.refl (S : Nat → Prop) (w : World) : Keeps S w w := ⟨rfl, rfl, rfl, Nat.le_refl _, fun _ _ _ => rfl⟩
theorem Keeps.trans (h : Keeps S w w1) (k : Keeps T w1 w2) (hT : ∀ b, T b → b < w.heap.size → S b) : Keeps S w w2 :=
  ⟨k.os.trans h.os, k.tape.trans h.tape, k.output.trans h.output, Nat.le_trans h.size k.size, fun b hb hn =>
    (k.block b (Nat.lt_of_lt_of_le hb h.size) (fun ht => hn (hT b ht hb))).trans (h.block b hb hn)⟩
theorem Keeps.same (h : Keeps S w w1) (k : Keeps S w1 w2) : Keeps S w w2 := h.trans k fun _ h _ => h
theorem Keeps.mono (h : Keeps S w w') (hS : ∀ b, b < w.heap.size → S b → T b) : Keeps T w w' :=
  ⟨h.os, h.tape, h.output, h.size, fun b hb hn => h.block b hb (fun hs => hn (hS b hb hs))⟩
theorem Keeps.drewN (h : Keeps S w w') (n : Nat) : Keeps S w (w'.drewN n) := ⟨h.os, h.tape, h.output, h.size, h.block⟩
theorem Keeps.drew (h : Keeps S w w') : Keeps S w w'.drew := ⟨h.os, h.tape, h.output, h.size, h.block⟩
theorem Keeps.alloc (h : Keeps S w w') (o : Obj) : Keeps S w (w'.alloc o) :=
  ⟨h.os, h.tape, h.output, Nat.le_trans h.size (by simp), fun i hi hn => (Below.heap_alloc w' o i (Nat.lt_of_lt_of_le hi h.size)).trans (h.block i hi hn)⟩
theorem Keeps.setCell (h : Keeps S w w') {p : Addr} (hp : S p.block ∨ w.heap.size ≤ p.block) (u : Value) : Keeps S w (w'.setCell p u) :=
  ⟨h.os, h.tape, h.output, by simpa [World.setCell] using h.size, fun i hi hn => (Below.heap_setCell w' p u i (by
    rintro rfl
    rcases hp with hp | hp
    · exact hn hp
    · omega)).trans (h.block i hi hn)⟩
theorem Keeps.of_below {B : Nat} (h : Below B w w') (hB : w.heap.size ≤ B) : Keeps S w w' :=
  ⟨h.os, h.tape, h.output, h.size, fun i hi _ => h.block i (by omega)⟩
theorem Keeps.below (h : Keeps S w w') (hS : ∀ b, b < w.heap.size → ¬ S b) : Below w.heap.size w w' :=
  ⟨h.os, h.tape, h.output, h.size, fun i hi => h.block i hi (hS i hi)⟩
theorem Keeps.of_grown {row : Option Nat} (h : w.grownBy w' row) (hr : ∀ b, row = some b → S b ∨ w.heap.size ≤ b) : Keeps S w w' :=
  ⟨h.os, h.tape, h.output, h.size, fun i hi hn => h.block i hi (fun e => by
    rcases hr i e.symm with h | h
    · exact hn h
    · omega)⟩
theorem Keeps.cell (h : Keeps S w w') {p : Addr} (hp : p.block < w.heap.size) (hn : ¬ S p.block) : w'.cell? p = w.cell? p := World.cell?_of_block (h.block p.block hp hn)
end

theorem Keeps.frozen {S : Nat → Prop} {w w' : World} (h : Keeps S w w') {p : Addr} (hp : p.block < w.heap.size) (hn : ¬ S p.block) : w'.frozen? p = w.frozen? p := by
  unfold World.frozen?
  rw [h.block p.block hp hn]

/-! ### a block known whole -/

def Blk (w : World) (g : Nat) (t : TypeId) (cs : Array Value) : Prop := w.heap[g]? = some (.cells cs t (0, 0))

section
variable {w w' : World} {g : Nat} {t : TypeId} {cs : Array Value} {S : Nat → Prop}
theorem Blk.lt (h : Blk w g t cs) : g < w.heap.size := by
  rcases Nat.lt_or_ge g w.heap.size with hlt | hge
  · exact hlt
  · unfold Blk at h; rw [Array.getElem?_eq_none hge] at h; cases h
theorem Blk.cell (h : Blk w g t cs) (i : Nat) : w.cell? ⟨g, i, none⟩ = cs[i]? := cell_of_row w g i cs t (0, 0) h
theorem Blk.frozen (h : Blk w g t cs) (i : Nat) : w.frozen? ⟨g, i, none⟩ = false := by
  unfold Blk at h
  simp [World.frozen?, h]
theorem Blk.new (w : World) (t : TypeId) (cs : Array Value) : Blk (w.alloc (.cells cs t)) w.heap.size t cs := heap_alloc_new w _
theorem Blk.drew (h : Blk w g t cs) : Blk w.drew g t cs := h
theorem Blk.drewN (h : Blk w g t cs) (n : Nat) : Blk (w.drewN n) g t cs := h
theorem Blk.alloc (h : Blk w g t cs) (o : Obj) : Blk (w.alloc o) g t cs := (Below.heap_alloc w o g h.lt).trans h
theorem Blk.set_ (h : Blk w g t cs) (i : Nat) (u : Value) : Blk (w.setCell ⟨g, i, none⟩ u) g t (cs.setIfInBounds i u) := by
  unfold Blk at h ⊢
  simp [World.setCell, Array.getElem?_modify, h]
theorem Blk.far (h : Blk w g t cs) {p : Addr} (hp : g ≠ p.block) (u : Value) : Blk (w.setCell p u) g t cs := (Below.heap_setCell w p u g hp).trans h
theorem Blk.keeps (h : Blk w g t cs) (k : Keeps S w w') (hn : ¬ S g) : Blk w' g t cs := (k.block g h.lt hn).trans h
end

/-- Two blocks. -/
def Two (b c : Nat) : Nat → Prop := fun k => k = b ∨ k = c
theorem one_two {b c m : Nat} : ∀ k, One b k → k < m → Two b c k := fun _ h _ => .inl h
theorem one_two' {b c m : Nat} : ∀ k, One c k → k < m → Two b c k := fun _ h _ => .inr h

/-! ### a row of one-cell elements that the call made -/
theorem row_form {w : World} {base n : Nat} {t : TypeId} {v : Value} {xs : List Value} (h : w.ownsRow base t 1 v n xs) :
    ∃ A c, v = .slice A n c ∧ n ≤ c ∧ (∀ k u, xs[k]? = some u → ∃ g, A = some ⟨g, 0, none⟩ ∧ base ≤ g ∧ g < w.heap.size ∧ w.cell? ⟨g, k, none⟩ = some u) := by
  obtain ⟨hl, hv⟩ := h
  rcases hv with ⟨rfl, rfl⟩ | ⟨g, cap, cur, rfl, hb, hg, hc, _, hs, ht⟩
  · refine ⟨none, 0, rfl, Nat.le_refl _, fun k u hk => ?_⟩
    have : xs = [] := List.eq_nil_of_length_eq_zero (by simpa using hl)
    rw [this] at hk
    cases hk
  · refine ⟨_, cap, rfl, hc, fun k u hk => ⟨g, rfl, hb, (Array.getElem?_eq_some_iff.1 hg).1, ?_⟩⟩
    have h1 := cell_of_row w g k cur t (0, 0) hg
    have hkl := (List.getElem?_eq_some_iff.1 hk).1
    rw [← ht, List.getElem?_take_of_lt (by rw [hl] at hkl; exact hkl)] at hk
    rw [h1, ← hk, Array.getElem?_toList]

/-! ### a map that reads as a partial function -/

/-- f, with v at k. -/
def upd {κ β : Type} [DecidableEq κ] (f : κ → Option β) (k : κ) (v : β) : κ → Option β := fun q => if q = k then some v else f q
/-- f without k. -/
def del {κ β : Type} [DecidableEq κ] (f : κ → Option β) (k : κ) : κ → Option β := fun q => if q = k then none else f q

/-- Block b is a map of at most n entries that reads as f: its keys by K, its values by R. -/
def MapF {κ β : Type} (w : World) (b : Nat) (K : κ → Value) (R : β → Value) (n : Nat) (f : κ → Option β) : Prop :=
  ∃ es clock, w.heap[b]? = some (.map es clock) ∧ Stamped es clock ∧ es.size ≤ n ∧
    (∀ x ∈ es.toList, ∃ k v, x.key = K k ∧ x.val = R v ∧ f k = some v) ∧
    (∀ k v, f k = some v → ∃ x ∈ es.toList, x.key = K k ∧ x.val = R v)

/-- What a kind of keys is. -/
structure KeyK {κ : Type} (P : Program) (kt : TypeId) (K : κ → Value) : Prop where
  kind : ∃ d, P.underlying kt = some d ∧ ∀ k, IsKey d (K k)
  inj : ∀ a b, K a = K b → a = b

theorem keyK_string {P : Program} {kt : TypeId} (h : P.underlying kt = some .string) : KeyK P kt Value.string :=
  ⟨⟨_, h, fun _ => trivial⟩, fun a b e => by injection e⟩
theorem keyK_int {P : Program} {kt : TypeId} {q : IntKind} (h : P.underlying kt = some (.int q)) : KeyK P kt (Value.int q) :=
  ⟨⟨_, h, fun _ => rfl⟩, fun a b e => by injection e⟩

section
variable {κ β : Type} {w w' : World} {b n : Nat} {K : κ → Value} {R : β → Value} {f : κ → Option β} {S : Nat → Prop} {P : Program} {mt kt et : TypeId}

theorem MapF.lt (h : MapF w b K R n f) : b < w.heap.size := by
  obtain ⟨es, c, hb, _⟩ := h
  exact (Array.getElem?_eq_some_iff.1 hb).1
theorem MapF.keeps (h : MapF w b K R n f) (k : Keeps S w w') (hn : ¬ S b) : MapF w' b K R n f := by
  have hl := h.lt
  obtain ⟨es, c, hb, h2⟩ := h
  exact ⟨es, c, (k.block b hl hn).trans hb, h2⟩
theorem MapF.drew (h : MapF w b K R n f) : MapF w.drew b K R n f := h
theorem MapF.drewN (h : MapF w b K R n f) (k : Nat) : MapF (w.drewN k) b K R n f := h
theorem MapF.mono {m : Nat} (h : MapF w b K R n f) (hm : n ≤ m) : MapF w b K R m f := by
  obtain ⟨es, c, hb, h1, h2, h3⟩ := h
  exact ⟨es, c, hb, h1, Nat.le_trans h2 hm, h3⟩
theorem MapF.new (w : World) (K : κ → Value) (R : β → Value) : MapF (w.alloc (.map #[] 0)) w.heap.size K R 0 (fun _ => none) :=
  ⟨#[], 0, (heap_alloc w _).1, stamped_empty 0, by simp, by simp, by simp⟩

/-- Where k stands in the block, or that it doesn't. -/
theorem MapF.find (h : MapF w b K R n f) (hk : KeyK P kt K) (k : κ) : ∃ es clock d, w.heap[b]? = some (.map es clock) ∧ P.underlying kt = some d ∧ IsKey d (K k) ∧
    ((f k = none ∧ Instr.findNow d (K k) es.toList 0 = some none) ∨
     ∃ v j, f k = some v ∧ Instr.findNow d (K k) es.toList 0 = some (some (j, R v))) := by
  obtain ⟨es, clock, hb, hs, _, h1, h2⟩ := h
  obtain ⟨⟨d, hd, hK⟩, hinj⟩ := hk
  refine ⟨es, clock, d, hb, hd, hK k, ?_⟩
  have hkeys : ∀ x ∈ es.toList, IsKey d x.key := fun x hx => by
    obtain ⟨k', v', e, _⟩ := h1 x hx
    rw [e]; exact hK k'
  rcases findNow_spec (hK k) es.toList 0 hkeys with ⟨g1, g2⟩ | ⟨j, e, g1, g2, g3⟩
  · refine .inl ⟨?_, g1⟩
    cases hf : f k with
    | none => rfl
    | some v =>
      obtain ⟨x, hx, e, _⟩ := h2 k v hf
      exact absurd e (g2 x hx)
  · obtain ⟨k', v', e1, e2, e3⟩ := h1 e (List.mem_of_getElem? g2)
    have : k' = k := hinj _ _ (e1.symm.trans g3)
    subst this
    exact .inr ⟨v', 0 + j, e3, by rw [g1, e2]⟩

theorem MapF.lookup_some (h : MapF w b K R n f) (hk : KeyK P kt K) (ht : P.underlying mt = some (.map kt et)) {k : κ} {v : β} (hf : f k = some v) :
    (Instr.lookup mt (.map (some b)) (K k) true).run P w = .ok (.tuple #[R v, .bool true]) w := by
  obtain ⟨es, clock, d, hb, hd, hK, h | ⟨v', j, h1, h2⟩⟩ := h.find hk k
  · rw [hf] at h; cases h.1
  · rw [hf] at h1; cases h1
    simp [Instr.lookup, run_underlying ht, MapKept.run_getObj_map hb, run_checkKey hd hK, run_findKey hd h2, Result.andThen]
theorem MapF.lookup_none (h : MapF w b K R n f) (hk : KeyK P kt K) (ht : P.underlying mt = some (.map kt et)) {z : Value} (hz : (zeroValue et).run P w = .ok z w) {k : κ} (hf : f k = none) :
    (Instr.lookup mt (.map (some b)) (K k) true).run P w = .ok (.tuple #[z, .bool false]) w := by
  obtain ⟨es, clock, d, hb, hd, hK, h | ⟨v', j, h1, h2⟩⟩ := h.find hk k
  · simp [Instr.lookup, run_underlying ht, MapKept.run_getObj_map hb, run_checkKey hd hK, run_findKey hd h.2, Result.andThen, hz]
  · rw [hf] at h1; cases h1
theorem MapF.get_some (h : MapF w b K R n f) (hk : KeyK P kt K) (ht : P.underlying mt = some (.map kt et)) {k : κ} {v : β} (hf : f k = some v) :
    (Instr.lookup mt (.map (some b)) (K k) false).run P w = .ok (R v) w := by
  obtain ⟨es, clock, d, hb, hd, hK, h | ⟨v', j, h1, h2⟩⟩ := h.find hk k
  · rw [hf] at h; cases h.1
  · rw [hf] at h1; cases h1
    simp [Instr.lookup, run_underlying ht, MapKept.run_getObj_map hb, run_checkKey hd hK, run_findKey hd h2, Result.andThen]
theorem MapF.get_none (h : MapF w b K R n f) (hk : KeyK P kt K) (ht : P.underlying mt = some (.map kt et)) {z : Value} (hz : (zeroValue et).run P w = .ok z w) {k : κ} (hf : f k = none) :
    (Instr.lookup mt (.map (some b)) (K k) false).run P w = .ok z w := by
  obtain ⟨es, clock, d, hb, hd, hK, h | ⟨v', j, h1, h2⟩⟩ := h.find hk k
  · simp [Instr.lookup, run_underlying ht, MapKept.run_getObj_map hb, run_checkKey hd hK, run_findKey hd h.2, Result.andThen, hz]
  · rw [hf] at h1; cases h1

theorem MapF.get (h : MapF w b K R n f) (hk : KeyK P kt K) (ht : P.underlying mt = some (.map kt et)) {z : β} (hz : (zeroValue et).run P w = .ok (R z) w) (k : κ) :
    (Instr.lookup mt (.map (some b)) (K k) false).run P w = .ok (R ((f k).getD z)) w := by
  cases hf : f k with
  | none => exact h.get_none hk ht hz hf
  | some v => exact h.get_some hk ht hf

theorem keeps_block (b : Nat) (o : Obj) : Keeps (One b) w { w with heap := w.heap.setIfInBounds b o } :=
  ⟨rfl, rfl, rfl, by simp, fun k _ hn => by
    have : b ≠ k := fun e => hn e.symm
    simp [this]⟩

theorem MapF.update [DecidableEq κ] (h : MapF w b K R n f) (hk : KeyK P kt K) (ht : P.underlying mt = some (.map kt et)) (k : κ) (v : β) :
    ∃ w', (Instr.mapUpdate mt (.map (some b)) (K k) (R v)).run P w = .ok () w' ∧ MapF w' b K R (n + 1) (upd f k v) ∧ Keeps (One b) w w' := by
  obtain ⟨es, clock, hb, hs, hn, h1, h2⟩ := h
  obtain ⟨⟨d, hd, hK⟩, hinj⟩ := hk
  have hkeys : ∀ x ∈ es.toList, IsKey d x.key := fun x hx => by
    obtain ⟨k', v', e, _⟩ := h1 x hx
    rw [e]; exact hK k'
  rcases findNow_spec (hK k) es.toList 0 hkeys with ⟨g1, g2⟩ | ⟨j, e, g1, g2, g3⟩
  · refine ⟨_, ?_, ⟨es.push { key := K k, val := R v, born := clock }, clock + 1, (heap_set hb).1, stamped_push hs g2, by simp; omega, ?_, ?_⟩, keeps_block _ _⟩
    · simp [Instr.mapUpdate, run_underlying ht, MapKept.run_getObj_map hb, run_checkKey hd (hK k), run_findKey hd g1, MapKept.run_setObj_map _ hb, Result.andThen]
    · intro x hx
      simp only [Array.toList_push, List.mem_append, List.mem_singleton] at hx
      rcases hx with hx | rfl
      · obtain ⟨k', v', e1, e2, e3⟩ := h1 x hx
        have hne : k' ≠ k := fun e => g2 x hx (by rw [e1, e])
        exact ⟨k', v', e1, e2, by simp [upd, hne, e3]⟩
      · exact ⟨k, v, rfl, rfl, by simp [upd]⟩
    · intro k' v' hf
      by_cases e : k' = k
      · subst e
        simp [upd] at hf
        subst hf
        exact ⟨{ key := K k', val := R v, born := clock }, by simp, rfl, rfl⟩
      · simp [upd, e] at hf
        obtain ⟨x, hx, e1, e2⟩ := h2 k' v' hf
        exact ⟨x, by simp [Array.mem_toList_iff.1 hx], e1, e2⟩
  · have hj : es[j]? = some e := by simpa using g2
    have hkey : ∀ e', es[j]? = some e' → ({ e' with key := K k, val := R v } : MapEntry).key = e'.key := fun e' he' => by rw [hj] at he'; cases he'; exact g3.symm
    refine ⟨_, ?_, ⟨es.modify j fun e => { e with key := K k, val := R v }, clock, (heap_set hb).1, stamped_modify hs _ _ (fun _ _ => rfl) (fun e' _ he' => hkey e' he'), by simp; omega, ?_, ?_⟩, keeps_block _ _⟩
    · simp [Instr.mapUpdate, run_underlying ht, MapKept.run_getObj_map hb, run_checkKey hd (hK k), run_findKey hd g1, hj, g3, run_keyThatStays (hK k), MapKept.run_setObj_map _ hb, Result.andThen]
    · intro x hx
      obtain ⟨i, hi⟩ := List.mem_iff_getElem?.1 hx
      rw [Array.getElem?_toList, Array.getElem?_modify] at hi
      by_cases hij : j = i
      · subst hij
        simp [hj] at hi
        subst hi
        exact ⟨k, v, rfl, rfl, by simp [upd]⟩
      · simp [hij] at hi
        have hx0 : x ∈ es.toList := by
          rw [Array.mem_toList_iff]; exact Array.mem_of_getElem? hi
        obtain ⟨k', v', e1, e2, e3⟩ := h1 x hx0
        have hne : k' ≠ k := by
          rintro rfl
          have hnd := hs.2.2
          have ei : (es.toList.map (·.key))[i]? = some (K k') := by simp [hi, e1]
          have ej : (es.toList.map (·.key))[j]? = some (K k') := by simp [hj, g3]
          have hil : i < (es.toList.map (·.key)).length := (List.getElem?_eq_some_iff.1 ei).1
          exact hij (((List.getElem?_inj hil hnd).1 (ei.trans ej.symm)).symm)
        exact ⟨k', v', e1, e2, by simp [upd, hne, e3]⟩
    · intro k' v' hf
      by_cases e' : k' = k
      · subst e'
        simp [upd] at hf
        subst hf
        refine ⟨{ e with key := K k', val := R v }, ?_, rfl, rfl⟩
        refine List.mem_iff_getElem?.2 ⟨j, ?_⟩
        rw [Array.getElem?_toList, Array.getElem?_modify]
        simp [hj]
      · simp [upd, e'] at hf
        obtain ⟨x, hx, e1, e2⟩ := h2 k' v' hf
        obtain ⟨i, hi⟩ := List.mem_iff_getElem?.1 hx
        have hij : j ≠ i := by
          rintro rfl
          rw [g2] at hi
          cases hi
          exact e' (hinj _ _ (e1.symm.trans g3))
        refine ⟨x, List.mem_iff_getElem?.2 ⟨i, ?_⟩, e1, e2⟩
        rw [Array.getElem?_toList, Array.getElem?_modify]
        simpa [hij] using hi

theorem MapF.delete [DecidableEq κ] {ty : TypeId} (h : MapF w b K R n f) (hk : KeyK P kt K) (ht : P.underlying mt = some (.map kt et)) (k : κ) :
    ∃ w', (Builtin.delete_ #[mt, kt] ty #[.map (some b), K k]).run P w = .ok (.tuple #[]) w' ∧ MapF w' b K R n (del f k) ∧ Keeps (One b) w w' := by
  obtain ⟨es, clock, hb, hs, hn, h1, h2⟩ := h
  obtain ⟨⟨d, hd, hK⟩, hinj⟩ := hk
  have hkeys : ∀ x ∈ es.toList, IsKey d x.key := fun x hx => by
    obtain ⟨k', v', e, _⟩ := h1 x hx
    rw [e]; exact hK k'
  rcases findNow_spec (hK k) es.toList 0 hkeys with ⟨g1, g2⟩ | ⟨j, e, g1, g2, g3⟩
  · refine ⟨_, ?_, ⟨es, clock, (heap_set hb).1, hs, hn, ?_, ?_⟩, keeps_block _ _⟩
    · simp [Builtin.delete_, run_underlying ht, MapKept.run_getObj_map hb, run_checkKey hd (hK k), run_findKey hd g1, MapKept.run_setObj_map _ hb, Result.andThen]
    · intro x hx
      obtain ⟨k', v', e1, e2, e3⟩ := h1 x hx
      have hne : k' ≠ k := fun e => g2 x hx (by rw [e1, e])
      exact ⟨k', v', e1, e2, by simp [del, hne, e3]⟩
    · intro k' v' hf
      have hne : k' ≠ k := fun e => by simp [del, e] at hf
      simp [del, hne] at hf
      exact h2 k' v' hf
  · have hj : es[j]? = some e := by simpa using g2
    have hjl : j < es.size := (Array.getElem?_eq_some_iff.1 hj).1
    have htl : (es.eraseIdxIfInBounds j).toList = es.toList.eraseIdx j := by
      unfold Array.eraseIdxIfInBounds
      simp [hjl]
    refine ⟨_, ?_, ⟨es.eraseIdxIfInBounds j, clock, (heap_set hb).1, stamped_erase hs _, ?_, ?_, ?_⟩, keeps_block _ _⟩
    · simp [Builtin.delete_, run_underlying ht, MapKept.run_getObj_map hb, run_checkKey hd (hK k), run_findKey hd g1, MapKept.run_setObj_map _ hb, Result.andThen]
    · have e1 : (es.eraseIdxIfInBounds j).size = (es.eraseIdxIfInBounds j).toList.length := rfl
      have e2 := List.length_eraseIdx_le es.toList j
      have e3 : es.toList.length = es.size := by simp
      rw [e1, htl]; omega
    · intro x hx
      rw [htl] at hx
      obtain ⟨i, hi, hxi⟩ := List.mem_eraseIdx_iff_getElem?.1 hx
      obtain ⟨k', v', e1, e2, e3⟩ := h1 x (List.mem_of_getElem? hxi)
      have hne : k' ≠ k := by
        rintro rfl
        have hnd := hs.2.2
        have ei : (es.toList.map (·.key))[i]? = some (K k') := by rw [List.getElem?_map, hxi]; simp [e1]
        have ej : (es.toList.map (·.key))[j]? = some (K k') := by rw [List.getElem?_map, g2]; simp [g3]
        have hil : i < (es.toList.map (·.key)).length := (List.getElem?_eq_some_iff.1 ei).1
        exact hi (((List.getElem?_inj hil hnd).1 (ei.trans ej.symm)))
      exact ⟨k', v', e1, e2, by simp [del, hne, e3]⟩
    · intro k' v' hf
      have hne : k' ≠ k := fun e => by simp [del, e] at hf
      simp [del, hne] at hf
      obtain ⟨x, hx, e1, e2⟩ := h2 k' v' hf
      obtain ⟨i, hi⟩ := List.mem_iff_getElem?.1 hx
      refine ⟨x, ?_, e1, e2⟩
      rw [htl]
      refine List.mem_eraseIdx_iff_getElem?.2 ⟨i, ?_, hi⟩
      rintro rfl
      rw [g2] at hi
      cases hi
      exact hne (hinj _ _ (e1.symm.trans g3))

/-! ### at the operation, for the walk -/
theorem wpList_mapF_update [DecidableEq κ] {ops : Array Oper} {rest : List Oper} {o : Oper} {a : Act} {Q : Exit → Act → World → Prop}
    (hg : o.guard = none) (m x v : Operand) (hop : o.op = Op.mapUpdate mt m x v) (h : MapF w b K R n f) (hk : KeyK P kt K) (ht : P.underlying mt = some (.map kt et))
    (hm : a.eval m = .map (some b)) (k : κ) (u : β) (hx : a.eval x = K k) (hv : a.eval v = R u)
    (hK : ∀ w', MapF w' b K R (n + 1) (upd f k u) → Keeps (One b) w w' → wpList P ops Q rest (a.put o.dst undef) w') : wpList P ops Q (o :: rest) a w := by
  refine wpList_plain hg fun K' hK' => ?_
  obtain ⟨w', hrun, r1, r2⟩ := h.update hk ht k u
  unfold Oper.wp
  simp [execOp, hop, hm, hx, hv, hrun, Result.andThen]
  exact hK' _ _ (hK w' r1 r2)
theorem wp_mapF_update [DecidableEq κ] {o : Oper} {a : Act} {K' : Act → World → Prop} {Q : Exit → Act → World → Prop}
    (m x v : Operand) (hop : o.op = Op.mapUpdate mt m x v) (h : MapF w b K R n f) (hk : KeyK P kt K) (ht : P.underlying mt = some (.map kt et))
    (hm : a.eval m = .map (some b)) (k : κ) (u : β) (hx : a.eval x = K k) (hv : a.eval v = R u)
    (hK : ∀ w', MapF w' b K R (n + 1) (upd f k u) → Keeps (One b) w w' → K' (a.put o.dst undef) w') : o.wp P a w K' Q := by
  obtain ⟨w', hrun, r1, r2⟩ := h.update hk ht k u
  unfold Oper.wp
  simp [execOp, hop, hm, hx, hv, hrun, Result.andThen]
  exact hK w' r1 r2
theorem step_mapF_update [DecidableEq κ] {ops : Array Oper} {o : Oper} {a : Act} {K' : Act → World → Prop} {Q : Exit → Act → World → Prop} {E : Prop} (hg : o.guard = none)
    (m x v : Operand) (hop : o.op = Op.mapUpdate mt m x v) (h : MapF w b K R n f) (hk : KeyK P kt K) (ht : P.underlying mt = some (.map kt et))
    (hm : a.eval m = .map (some b)) (k : κ) (u : β) (hx : a.eval x = K k) (hv : a.eval v = R u)
    (hK : ∀ w', MapF w' b K R (n + 1) (upd f k u) → Keeps (One b) w w' → K' (a.put o.dst undef) w') : if Region.wanted o (yielded ops a.tmps) = true then o.wp P a w K' Q else E := by
  have hw : Region.wanted o (yielded ops a.tmps) = true := by simp [Region.wanted, hg]
  rw [if_pos hw]
  exact wp_mapF_update m x v hop h hk ht hm k u hx hv hK
theorem wpList_mapF_delete [DecidableEq κ] {ops : Array Oper} {rest : List Oper} {o : Oper} {a : Act} {Q : Exit → Act → World → Prop}
    (hg : o.guard = none) (m x : Operand) (hop : o.op = .call { callee := .builtin .delete, args := #[m, x], argTypes := #[mt, kt] }) (h : MapF w b K R n f) (hk : KeyK P kt K) (ht : P.underlying mt = some (.map kt et))
    (hm : a.eval m = .map (some b)) (k : κ) (hx : a.eval x = K k)
    (hK : ∀ w', MapF w' b K R n (del f k) → Keeps (One b) w w' → wpList P ops Q rest (a.put o.dst (.tuple #[])) w') : wpList P ops Q (o :: rest) a w := by
  refine wpList_plain hg fun K' hK' => ?_
  obtain ⟨w', hrun, r1, r2⟩ := h.delete (ty := o.type) hk ht k
  unfold Oper.wp execOp
  simp only [hop, resolve, invoke, builtin, Sem.run_bind, Sem.run_pure, Result.andThen_ok, List.map_toArray, List.map_cons, List.map_nil, hm, hx, hrun]
  exact hK' _ _ (hK w' r1 r2)
end
end Go.Proofs.Ytmjlbpgngahgmaa
