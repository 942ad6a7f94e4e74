/- append of one element: in place, or into a new block with all else as it was. No conditions but sizes. -/
import Derived.Test.YtmjlbpgngahgmaaRw2
namespace Go.Proofs.Ytmjlbpgngahgmaa
open Go.RowKit
section
variable {α : Type} {w w' : World} {e t : TypeId} {size bytes : Nat} {enc : α → List Value} {v y : Value} {l m : List α} {S : Nat → Prop} {P : Program}

theorem run_row_append2 (T : ElemT P t e size bytes) (he : Enc size enc) (ty : TypeId) (h : RowOf w e size enc v l) (b c : Nat) (x : α) (hb : Blk w b e (enc x).toArray) (hn : (l.length + 1) * bytes ≤ 140737488355328) (hm : l.length + 1 ≤ 4294967296) :
    ∃ v' w', (Builtin.append_ #[t, t] ty #[v, .slice (some ⟨b, 0, none⟩) 1 c]).run P w = .ok v' w' ∧ RowOf w' e size enc v' (l ++ [x]) ∧
      ((v'.ownBlock = v.ownBlock ∧ Keeps (OwnB v) w w') ∨ (v'.ownBlock = some w.heap.size ∧ Keeps Nil w w')) ∧ (∃ g cap, v' = .slice (some ⟨g, 0, none⟩) (l.length + 1) cap) := by
  obtain ⟨v', w', h1, h2, h3, h4, h5⟩ := run_row_append T he ty h b c x hb hn hm
  refine ⟨v', w', h1, h2, ?_, h5⟩
  rcases h4 with h4 | h4
  · exact .inl ⟨h4, h3⟩
  · refine .inr ⟨h4, ?_⟩
    rcases h.len with ⟨rfl, _⟩ | ⟨g, cap, rfl⟩
    · exact h3.mono fun b _ hb => by cases hb
    · obtain ⟨i, z, hi, hz, hsz, hby, hzs⟩ := T.info
      subst hsz
      subst hby
      have hlen : (l.flatMap enc).length = l.length * i.size := h.1
      rcases h.2 with ⟨hv, _⟩ | ⟨g', cap', cur, hv, _, hg, hnc, hcm, hcs, htake⟩
      · cases hv
      · injection hv with hv1 hv2 hv3
        injection hv1 with hv1
        injection hv1 with hv1
        subst hv1; subst hv3
        have hnews : ∀ j u, (enc x)[j]? = some u → w.cell? ((⟨b, 0, none⟩ : Addr).add j) = some u := fun j u hu => by
          have := hb.cell j
          rw [List.getElem?_toArray, hu] at this
          unfold Addr.add
          by_cases hj : j = 0
          · subst hj; simpa using this
          · simpa [hj] using this
        by_cases hroom : l.length + 1 ≤ cap
        · have hfit : l.length * i.size + (enc x).length ≤ cur.size := by
            rw [he.len, hcs]
            have := Nat.mul_le_mul_right i.size hroom
            rw [Nat.add_mul, Nat.one_mul] at this
            exact this
          have hr := run_append_room (P := P) w t ty e i T.ht hi g l.length cap cur hg ⟨b, 0, none⟩ 1 c (enc x) (by rw [he.len, Nat.one_mul]) hnews (he.one x) hroom hfit
          rw [h1] at hr
          injection hr with hr1 hr2
          subst hr1
          have hlt := h.lt g rfl
          injection h4 with h4
          have h4 : g = w.heap.size := h4
          omega
        · have holds : ∀ j u, (l.flatMap enc)[j]? = some u → w.cell? ((⟨g, 0, none⟩ : Addr).add j) = some u := World.ownsRow.cells h (g := g) rfl
          have hr := run_append_grow (P := P) w t ty e i z T.ht hi hz ⟨g, 0, none⟩ l.length cap _ hlen holds ⟨b, 0, none⟩ 1 c (enc x) (by rw [he.len, Nat.one_mul]) hnews (by omega) (by omega) (growslice_fits (by omega) hn)
          rw [h1] at hr
          injection hr with hr1 hr2
          rw [hr2]
          exact ((Keeps.refl Nil w).drew).alloc _

theorem wpList_row_append2 {ops : Array Oper} {rest : List Oper} {o : Oper} {a : Act} {Q : Exit → Act → World → Prop} (hgd : o.guard = none) (s y : Operand)
    (ho : o.op = .call { callee := .builtin .append, args := #[s, y], argTypes := #[t, t] }) (T : ElemT P t e size bytes) (he : Enc size enc) (h : RowOf w e size enc v l) (hs : a.eval s = v)
    (b c : Nat) (hy : a.eval y = .slice (some ⟨b, 0, none⟩) 1 c) (x : α) (hb : Blk w b e (enc x).toArray) (hn : (l.length + 1) * bytes ≤ 140737488355328) (hm : l.length + 1 ≤ 4294967296)
    (hK : ∀ v' w', RowOf w' e size enc v' (l ++ [x]) → ((v'.ownBlock = v.ownBlock ∧ Keeps (OwnB v) w w') ∨ (v'.ownBlock = some w.heap.size ∧ Keeps Nil w w')) → (∃ g cap, v' = .slice (some ⟨g, 0, none⟩) (l.length + 1) cap) → wpList P ops Q rest (a.put o.dst v') w') : wpList P ops Q (o :: rest) a w := by
  refine wpList_plain hgd fun K hKK => ?_
  obtain ⟨v', w', hr, h2, h3, h4⟩ := run_row_append2 (P := P) T he o.type h b c x hb hn hm
  unfold Oper.wp execOp
  simp only [ho, resolve, invoke, builtin, Sem.run_bind, Sem.run_pure, Result.andThen_ok, List.map_toArray, List.map_cons, List.map_nil, hs, hy, hr]
  exact hKK _ _ (hK v' w' h2 h3 h4)
end
end Go.Proofs.Ytmjlbpgngahgmaa
