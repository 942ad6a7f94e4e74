/- append of a whole row behind a row; the empty row that []T{} lays. No conditions but sizes. -/
import Derived.Test.YtmjlbpgngahgmaaRw
import Derived.Deep.Upon
namespace Go.Proofs.Ytmjlbpgngahgmaa
open Go.RowKit
section
variable {α : Type} {w w' : World} {e t : TypeId} {size bytes : Nat} {enc : α → List Value} {v y : Value} {l m : List α} {S : Nat → Prop} {P : Program}

theorem RowOf.empty (w : World) (e : TypeId) (size : Nat) (enc : α → List Value) : RowOf (w.alloc (.cells #[] e)) e size enc (.slice (some ⟨w.heap.size, 0, none⟩) 0 0) [] :=
  World.ownsRow_made w #[] 0 (Nat.zero_le _) (Nat.zero_le _) (by simp)

/-- append of a whole row. -/
theorem run_row_extend (T : ElemT P t e size bytes) (he : Enc size enc) (ty : TypeId) (h : RowOf w e size enc v l) (hy : RowOf w e size enc y m) (hn : (l.length + m.length) * bytes ≤ 140737488355328) (hm : l.length + m.length ≤ 4294967296) :
    ∃ v' w', (Builtin.append_ #[t, t] ty #[v, y]).run P w = .ok v' w' ∧ RowOf w' e size enc v' (l ++ m) ∧ Keeps (OwnB v) w w' ∧ (v'.ownBlock = v.ownBlock ∨ v'.ownBlock = some w.heap.size) ∧ (∃ A cap, v' = .slice A (l.length + m.length) cap) := by
  obtain ⟨i, z, hi, hz, hsz, hby, hzs⟩ := T.info
  have hf := h.form he
  obtain ⟨A, c, hv, hlc, _⟩ := hf
  rcases RowOf.len hy with ⟨rfl, rfl⟩ | ⟨g, c', rfl⟩
  · subst hv
    refine ⟨.slice A l.length c, w, run_append_nothing w t t ty e i T.ht hi A l.length c hlc _ (Src.ofNil w T.ht 0), by rw [List.append_nil]; exact h, Keeps.refl _ _, .inl rfl, A, c, rfl⟩
  · have hcells : ∀ j u, (m.flatMap enc)[j]? = some u → w.cell? ((⟨g, 0, none⟩ : Addr).add j) = some u := World.ownsRow.cells hy (g := g) rfl
    have hone : ∀ u ∈ m.flatMap enc, u.oneCell' = true := by
      intro u hu
      obtain ⟨x, _, hx⟩ := List.mem_flatMap.1 hu
      exact he.one x u hx
    obtain ⟨v', w', h1, h2, h3, h4, h5⟩ := run_append_own_at (P := P) w 0 t ty e i z size bytes T.ht hi hz hsz hby hzs T.pos v l.length (l.flatMap enc) h ⟨g, 0, none⟩ m.length c' (m.flatMap enc) (flat_len he m)
      hcells hone (by unfold maxLen; omega) hn (Nat.zero_le _)
    have hrow : RowOf w' e size enc v' (l ++ m) := by
      unfold RowOf
      rw [List.length_append, List.flatMap_append]
      exact h2
    obtain ⟨A', cap', hv', _, _⟩ := hrow.form he
    exact ⟨v', w', h1, hrow, Keeps.of_grown h3 (fun b hb => .inl hb), h5, A', cap', by rw [hv', List.length_append]⟩

theorem wpList_row_extend {ops : Array Oper} {rest : List Oper} {o : Oper} {a : Act} {Q : Exit → Act → World → Prop} (hgd : o.guard = none) (s x : Operand)
    (ho : o.op = .call { callee := .builtin .append, args := #[s, x], argTypes := #[t, t] }) (T : ElemT P t e size bytes) (he : Enc size enc) (h : RowOf w e size enc v l) (hs : a.eval s = v)
    (hy : RowOf w e size enc y m) (hx : a.eval x = y) (hn : (l.length + m.length) * bytes ≤ 140737488355328) (hm : l.length + m.length ≤ 4294967296)
    (hK : ∀ v' w', RowOf w' e size enc v' (l ++ m) → Keeps (OwnB v) w w' → (v'.ownBlock = v.ownBlock ∨ v'.ownBlock = some w.heap.size) → (∃ A cap, v' = .slice A (l.length + m.length) cap) → wpList P ops Q rest (a.put o.dst v') w') : wpList P ops Q (o :: rest) a w := by
  refine wpList_plain hgd fun K hKK => ?_
  obtain ⟨v', w', hr, h2, h3, h4, h5⟩ := run_row_extend (P := P) T he o.type h hy hn hm
  unfold Oper.wp execOp
  simp only [ho, resolve, invoke, builtin, Sem.run_bind, Sem.run_pure, Result.andThen_ok, List.map_toArray, List.map_cons, List.map_nil, hs, hx, hr]
  exact hKK _ _ (hK v' w' h2 h3 h4 h5)
end
end Go.Proofs.Ytmjlbpgngahgmaa
