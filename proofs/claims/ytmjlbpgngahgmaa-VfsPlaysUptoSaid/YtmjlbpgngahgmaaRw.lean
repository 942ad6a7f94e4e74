/- Rows of elements of several cells that the call made: a slice value that reads as a Lean list; append, store. No conditions but sizes. -/
import Derived.Test.YtmjlbpgngahgmaaCore
import Derived.Maps.AppendAt
import Derived.Deep.AppendLies
namespace Go.Proofs.Ytmjlbpgngahgmaa
open Go.RowKit

/-- An element type: its cells, its bytes. -/
structure ElemT (P : Program) (t e : TypeId) (size bytes : Nat) : Prop where
  ht : P.underlying t = some (.slice e)
  info : ∃ i z, P.info? e = some i ∧ i.zero = some z ∧ i.size = size ∧ i.bytes = bytes ∧ z.cells.size = size
  pos : 0 < size

/-- v reads as the list l, each element by enc; its memory is the call's own. -/
def RowOf {α : Type} (w : World) (e : TypeId) (size : Nat) (enc : α → List Value) (v : Value) (l : List α) : Prop := w.ownsRow 0 e size v l.length (l.flatMap enc)

/-- An encoding: so many cells, each one cell. -/
structure Enc {α : Type} (size : Nat) (enc : α → List Value) : Prop where
  len : ∀ x, (enc x).length = size
  one : ∀ x, ∀ u ∈ enc x, u.oneCell' = true

/-- v's own block. -/
def OwnB (v : Value) : Nat → Prop := fun k => v.ownBlock = some k

section
variable {α : Type} {w w' : World} {e t : TypeId} {size bytes : Nat} {enc : α → List Value} {v : Value} {l : List α} {S : Nat → Prop} {P : Program}

theorem flat_len (h : Enc size enc) : ∀ l : List α, (l.flatMap enc).length = l.length * size
  | [] => by simp
  | x :: r => by rw [List.flatMap_cons, List.length_append, h.len, flat_len h r, List.length_cons, Nat.add_mul]; omega
theorem flat_get (h : Enc size enc) : ∀ (l : List α) (k : Nat) (hk : k < l.length) (j : Nat), j < size → (l.flatMap enc)[k * size + j]? = (enc l[k])[j]?
  | x :: r, 0, _, j, hj => by
    rw [List.flatMap_cons, Nat.zero_mul, Nat.zero_add, List.getElem?_append_left (by rw [h.len]; exact hj)]
    rfl
  | x :: r, k + 1, hk, j, hj => by
    rw [List.flatMap_cons, List.getElem?_append_right (by rw [h.len, Nat.add_mul]; omega), h.len]
    have : (k + 1) * size + j - size = k * size + j := by rw [Nat.add_mul]; omega
    rw [this, flat_get h r k (by simpa using hk) j hj]
    rfl

theorem RowOf.nil (w : World) (e : TypeId) (size : Nat) (enc : α → List Value) : RowOf w e size enc (.slice none 0 0) [] := ⟨by simp, .inl ⟨rfl, rfl⟩⟩
theorem RowOf.lt (h : RowOf w e size enc v l) : ∀ b, OwnB v b → b < w.heap.size := fun b hb => (World.ownsRow.lt h b hb).2
theorem RowOf.keeps (h : RowOf w e size enc v l) (k : Keeps S w w') (hn : ∀ b, OwnB v b → ¬ S b) : RowOf w' e size enc v l := by
  have hl := h.lt
  refine ⟨h.1, ?_⟩
  rcases h.2 with h2 | ⟨g, cap, cur, rfl, hb, hg, h3⟩
  · exact .inl h2
  · exact .inr ⟨g, cap, cur, rfl, hb, (k.block g (hl g rfl) (hn g rfl)).trans hg, h3⟩
theorem RowOf.drew (h : RowOf w e size enc v l) : RowOf w.drew e size enc v l := h
theorem RowOf.form (h : RowOf w e size enc v l) (he : Enc size enc) : ∃ A c, v = .slice A l.length c ∧ l.length ≤ c ∧
    ∀ (k : Nat) (hk : k < l.length), ∃ g, A = some ⟨g, 0, none⟩ ∧ OwnB v g ∧ g < w.heap.size ∧ (∀ u, (enc l[k])[0]? = some u → w.cell? ⟨g, k * size, none⟩ = some u ∧ w.frozen? ⟨g, k * size, none⟩ = false) ∧ ∀ j u, (enc l[k])[j]? = some u → w.cell? ⟨g, k * size + j, none⟩ = some u ∧ w.frozen? ⟨g, k * size + j, none⟩ = false := by
  have hlt := h.lt
  obtain ⟨hl, hv⟩ := h
  rcases hv with ⟨rfl, h0⟩ | ⟨g, cap, cur, rfl, _, hg, hc, _, hs, ht⟩
  · exact ⟨none, 0, by rw [h0], by omega, fun k hk => by omega⟩
  · have key : ∀ (k : Nat) (hk : k < l.length) j u, (enc l[k])[j]? = some u → w.cell? ⟨g, k * size + j, none⟩ = some u ∧ w.frozen? ⟨g, k * size + j, none⟩ = false := by
      intro k hk j u hu
      have hj : j < size := by have := (List.getElem?_eq_some_iff.1 hu).1; rw [he.len] at this; exact this
      have h1 := cell_of_row w g (k * size + j) cur e (0, 0) hg
      have h2 := flat_get he l k hk j hj
      have hlt' : k * size + j < l.length * size := by
        have : (k + 1) * size ≤ l.length * size := Nat.mul_le_mul_right _ hk
        rw [Nat.add_mul] at this
        omega
      rw [← ht, List.getElem?_take_of_lt hlt'] at h2
      refine ⟨by rw [h1, ← hu, ← h2, Array.getElem?_toList], ?_⟩
      simp [World.frozen?, hg]
    exact ⟨_, cap, rfl, hc, fun k hk => ⟨g, rfl, rfl, hlt g rfl, fun u hu => by simpa using key k hk 0 u hu, key k hk⟩⟩

theorem RowOf.len (h : RowOf w e size enc v l) : (v = .slice none 0 0 ∧ l = []) ∨ ∃ g c, v = .slice (some ⟨g, 0, none⟩) l.length c := by
  obtain ⟨hl, hv⟩ := h
  rcases hv with ⟨rfl, h0⟩ | ⟨g, cap, cur, rfl, _⟩
  · exact .inl ⟨rfl, List.eq_nil_of_length_eq_zero h0⟩
  · exact .inr ⟨g, cap, rfl⟩

/-- append of one element that lies in a block of its own. -/
theorem run_row_append (T : ElemT P t e size bytes) (he : Enc size enc) (ty : TypeId) (h : RowOf w e size enc v l) (b c : Nat) (x : α) (hb : Blk w b e (enc x).toArray) (hn : (l.length + 1) * bytes ≤ 140737488355328) (hm : l.length + 1 ≤ 4294967296) :
    ∃ v' w', (Builtin.append_ #[t, t] ty #[v, .slice (some ⟨b, 0, none⟩) 1 c]).run P w = .ok v' w' ∧ RowOf w' e size enc v' (l ++ [x]) ∧ Keeps (OwnB v) w w' ∧ (v'.ownBlock = v.ownBlock ∨ v'.ownBlock = some w.heap.size) ∧ (∃ g cap, v' = .slice (some ⟨g, 0, none⟩) (l.length + 1) cap) := by
  obtain ⟨i, z, hi, hz, hsz, hby, hzs⟩ := T.info
  obtain ⟨v', w', h1, h2, h3, h4, h5⟩ := run_append_own_at (P := P) w 0 t ty e i z size bytes T.ht hi hz hsz hby hzs T.pos v l.length (l.flatMap enc) h ⟨b, 0, none⟩ 1 c (enc x) (by rw [he.len, Nat.one_mul])
    (fun j u hu => by
      have := hb.cell j
      rw [List.getElem?_toArray, hu] at this
      unfold Addr.add
      by_cases hj : j = 0
      · subst hj; simpa using this
      · simpa [hj] using this) (he.one x) (by unfold maxLen; omega) hn (Nat.zero_le _)
  have hrow : RowOf w' e size enc v' (l ++ [x]) := by
    unfold RowOf
    rw [List.length_append, List.flatMap_append]
    simpa using h2
  refine ⟨v', w', h1, hrow, Keeps.of_grown h3 (fun b hb => .inl hb), h5, ?_⟩
  rcases hrow.len with ⟨_, hnil⟩ | ⟨g, cap, hv⟩
  · exact absurd hnil (by simp)
  · exact ⟨g, cap, by rw [hv]; simp⟩

theorem wpList_row_append {ops : Array Oper} {rest : List Oper} {o : Oper} {a : Act} {Q : Exit → Act → World → Prop} (hgd : o.guard = none) (s y : Operand)
    (ho : o.op = .call { callee := .builtin .append, args := #[s, y], argTypes := #[t, t] }) (T : ElemT P t e size bytes) (he : Enc size enc) (h : RowOf w e size enc v l) (hs : a.eval s = v)
    (b c : Nat) (hy : a.eval y = .slice (some ⟨b, 0, none⟩) 1 c) (x : α) (hb : Blk w b e (enc x).toArray) (hn : (l.length + 1) * bytes ≤ 140737488355328) (hm : l.length + 1 ≤ 4294967296)
    (hK : ∀ v' w', RowOf w' e size enc v' (l ++ [x]) → Keeps (OwnB v) w w' → (v'.ownBlock = v.ownBlock ∨ v'.ownBlock = some w.heap.size) → wpList P ops Q rest (a.put o.dst v') w') : wpList P ops Q (o :: rest) a w := by
  refine wpList_plain hgd fun K hKK => ?_
  obtain ⟨v', w', hr, h2, h3, h4, _⟩ := run_row_append (P := P) T he o.type h b c x hb hn hm
  unfold Oper.wp execOp
  simp only [ho, resolve, invoke, builtin, Sem.run_bind, Sem.run_pure, Result.andThen_ok, List.map_toArray, List.map_cons, List.map_nil, hs, hy, hr]
  exact hKK _ _ (hK v' w' h2 h3 h4)

theorem step_row_append {ops : Array Oper} {o : Oper} {a : Act} {K : Act → World → Prop} {Q : Exit → Act → World → Prop} {E : Prop} (hgd : o.guard = none) (s y : Operand)
    (ho : o.op = .call { callee := .builtin .append, args := #[s, y], argTypes := #[t, t] }) (T : ElemT P t e size bytes) (he : Enc size enc) (h : RowOf w e size enc v l) (hs : a.eval s = v)
    (b c : Nat) (hy : a.eval y = .slice (some ⟨b, 0, none⟩) 1 c) (x : α) (hb : Blk w b e (enc x).toArray) (hn : (l.length + 1) * bytes ≤ 140737488355328) (hm : l.length + 1 ≤ 4294967296)
    (hK : ∀ v' w', RowOf w' e size enc v' (l ++ [x]) → Keeps (OwnB v) w w' → (v'.ownBlock = v.ownBlock ∨ v'.ownBlock = some w.heap.size) → (∃ g cap, v' = .slice (some ⟨g, 0, none⟩) (l.length + 1) cap) → K (a.put o.dst v') w') :
    if Region.wanted o (yielded ops a.tmps) = true then Oper.wp P o a w K Q else E := by
  have hw : Region.wanted o (yielded ops a.tmps) = true := by simp [Region.wanted, hgd]
  rw [if_pos hw]
  obtain ⟨v', w', hr, h2, h3, h4, h5⟩ := run_row_append (P := P) T he o.type h b c x hb hn hm
  unfold Oper.wp execOp
  simp only [ho, resolve, invoke, builtin, Sem.run_bind, Sem.run_pure, Result.andThen_ok, List.map_toArray, List.map_cons, List.map_nil, hs, hy, hr]
  exact hK v' w' h2 h3 h4 h5

theorem flat_set (h : Enc size enc) : ∀ (l : List α) (k : Nat) (hk : k < l.length) (j : Nat) (u : Value) (x : α), j < size → enc x = (enc l[k]).set j u → (l.set k x).flatMap enc = (l.flatMap enc).set (k * size + j) u
  | y :: r, 0, _, j, u, x, hj, hx => by
    rw [List.set_cons_zero, List.flatMap_cons, List.flatMap_cons, Nat.zero_mul, Nat.zero_add, List.set_append_left _ _ (by rw [h.len]; exact hj), hx]
    rfl
  | y :: r, k + 1, hk, j, u, x, hj, hx => by
    rw [List.set_cons_succ, List.flatMap_cons, List.flatMap_cons, List.set_append_right _ _ (by rw [h.len, Nat.add_mul]; omega), h.len]
    have : (k + 1) * size + j - size = k * size + j := by rw [Nat.add_mul]; omega
    rw [this, flat_set h r k (by simpa using hk) j u x hj hx]

/-- A store into an element. -/
theorem RowOf.set (h : RowOf w e size enc v l) (he : Enc size enc) {g k j : Nat} (hg : OwnB v g) (hk : k < l.length) (hj : j < size) {u : Value} {x : α} (hx : enc x = (enc l[k]).set j u) :
    RowOf (w.setCell ⟨g, k * size + j, none⟩ u) e size enc v (l.set k x) ∧ Keeps (OwnB v) w (w.setCell ⟨g, k * size + j, none⟩ u) := by
  refine ⟨?_, (Keeps.refl _ w).setCell (p := ⟨g, k * size + j, none⟩) (.inl hg) u⟩
  rcases RowOf.len h with ⟨rfl, _⟩ | ⟨g', c, rfl⟩
  · cases hg
  · have : g' = g := by simpa [OwnB, Value.ownBlock] using hg
    subst this
    have h2 := (World.ownsRow.stored (w := w) h (k * size + j) u).1
    unfold RowOf
    rw [flat_set he l k hk j u x hj hx, List.length_set]
    exact h2
theorem own_step {w wr w' : World} {v v' : Value} (hnew : ∀ g, OwnB v g → w.heap.size ≤ g) (hk0 : Keeps Nil w wr) (hk : Keeps (OwnB v) wr w') (hv : v'.ownBlock = v.ownBlock ∨ v'.ownBlock = some wr.heap.size) :
    (∀ g, OwnB v' g → w.heap.size ≤ g) ∧ Keeps Nil w w' := by
  refine ⟨fun g hg => ?_, hk0.trans hk (fun b hb hl => by have := hnew b hb; omega)⟩
  unfold OwnB at hg
  rcases hv with e | e <;> rw [e] at hg
  · exact hnew g hg
  · injection hg with hg
    have := hk0.size
    omega
end
end Go.Proofs.Ytmjlbpgngahgmaa
