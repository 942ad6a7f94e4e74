/- maps.Clone, maps.Copy, slices.Sorted(maps.Keys(m)) at map[string]int, in the words of MapF. Conditions: the keys and their number are small. -/
import Derived.Test.YtmjlbpgngahgmaaCore
import Derived.Test.YtmjlbpgngahgmaaShelf
namespace Go.Proofs.Ytmjlbpgngahgmaa
open Go.RowKit Go.MapKept Go.Maps Go.Sort Go.Shelf

/-- The keys of f, rising. -/
structure KeyList {β : Type} (f : ByteArray → Option β) (l : List ByteArray) : Prop where
  rising : l.Pairwise (fun a b => a.data.toList < b.data.toList)
  mem : ∀ k, k ∈ l ↔ f k ≠ none

/-- An element of which nothing is asked. -/
def anyE : Value → Option (DataW Unit × List MemPlace) := fun _ => some (.nil, [])

theorem any_sorted {H : Type} (p : Lit × DataW H → Bool) : ∀ l : List (Lit × DataW H), (l.foldr DataW.insert []).any p = l.any p
  | [] => rfl
  | x :: r => by rw [List.foldr_cons, Maps.any_insert, any_sorted p r]; rfl

theorem mapF_owns {β : Type} {w : World} {b n : Nat} {R : β → Value} {f : ByteArray → Option β} {P : Program} {kt : TypeId} (h : MapF w b Value.string R n f) (hk : P.underlying kt = some .string)
    (hs : ∀ k, f k ≠ none → k.size ≤ maxLen) (hn : n ≤ maxLen) :
    ∃ D : DataW Unit, w.ownsMap P kt anyE b n D ∧ ∀ k : ByteArray, Maps.has D (.string k.data.toList) = true ↔ f k ≠ none := by
  obtain ⟨es, clock, hb, hst, hsz, h1, h2⟩ := h
  have hread : ∀ x ∈ es.toList, ∃ k : ByteArray, x.key = .string k ∧ f k ≠ none ∧ Go.WideElems.rd P kt anyE x = some (.string k.data.toList, .nil) := by
    intro x hx
    obtain ⟨k, v, e1, e2, e3⟩ := h1 x hx
    refine ⟨k, e1, by rw [e3]; simp, ?_⟩
    unfold Go.WideElems.rd
    rw [e1, Go.WideMaps.keyOf_string_mk hk (hs k (by rw [e3]; simp))]
    rfl
  refine ⟨_, ⟨es, clock, hb, ⟨Nat.le_trans hsz hn, hst, fun x hx => ?_⟩, hsz, rfl⟩, fun k => ?_⟩
  · obtain ⟨k, _, _, hr⟩ := hread x hx
    exact ⟨_, hr⟩
  · rw [Maps.has_eq, any_sorted, List.any_eq_true]
    constructor
    · rintro ⟨p, hp, hs⟩
      obtain ⟨x, hx, rfl⟩ := List.mem_map.1 hp
      obtain ⟨k', e1, e2, e3⟩ := hread x hx
      rw [Go.WideElems.rg_of e3] at hs
      have : k'.data.toList = k.data.toList := by simpa [Lit.sameKey] using hs
      rw [← Go.WideShapes.bytes_inj this]
      exact e2
    · intro hf
      obtain ⟨v, hv⟩ := Option.ne_none_iff_exists'.1 hf
      obtain ⟨x, hx, e1, _⟩ := h2 k v hv
      obtain ⟨k', e2, _, e3⟩ := hread x hx
      have : k' = k := by rw [e1] at e2; injection e2 with e2; exact e2.symm
      subst this
      exact ⟨_, List.mem_map.2 ⟨x, hx, rfl⟩, by rw [Go.WideElems.rg_of e3]; simp [Lit.sameKey]⟩

theorem leB_tr : ∀ a b c : List UInt8, leB a b = true → leB b c = true → leB a c = true := fun a b c h1 h2 => by simp only [leB, decide_eq_true_eq] at *; exact List.le_trans h1 h2
theorem leB_to : ∀ a b : List UInt8, (leB a b || leB b a) = true := fun a b => by simp only [leB, Bool.or_eq_true, decide_eq_true_eq]; exact List.le_total a b

theorem has_keys {P : Program} {kt : TypeId} {w : World} {b n : Nat} {R : Value → Option (DataW Unit × List MemPlace)} {D : DataW Unit} (hk : P.underlying kt = some .string) (h : w.ownsMap P kt R b n D) :
    (strKeys D).Nodup ∧ ∀ x, x ∈ strKeys D ↔ Maps.has D (.string x) = true := by
  obtain ⟨es, rfl, hp, hkeys⟩ := h.canonK (string_keyed hk)
  have hstr : ∀ p ∈ es, ∃ x, p.1 = Lit.string x := fun p hp' => by
    obtain ⟨v, hv⟩ := hkeys p hp'
    obtain ⟨x, _, hx, _⟩ := Maps.keyOf_str hk hv
    exact ⟨x, hx⟩
  have hne : es.Pairwise (fun p q => p.1 ≠ q.1) := hp.imp fun {p q} hb e => by
    rw [e, Go.WideShapes.before_irrefl] at hb
    cases hb
  refine ⟨?_, fun x => ?_⟩
  · show (es.map fun p => strOf p.1).Nodup
    refine List.pairwise_map.2 (hne.imp_of_mem fun {p q} hp' hq' hne e => hne ?_)
    obtain ⟨a, ha⟩ := hstr p hp'
    obtain ⟨b, hb⟩ := hstr q hq'
    rw [ha, hb] at e ⊢
    exact congrArg _ e
  · rw [Maps.has_eq, List.any_eq_true]
    show x ∈ (es.map fun p => strOf p.1) ↔ _
    rw [List.mem_map]
    constructor
    · rintro ⟨p, hp', rfl⟩
      obtain ⟨a, ha⟩ := hstr p hp'
      exact ⟨p, hp', by rw [ha]; simp [Lit.sameKey, strOf]⟩
    · rintro ⟨p, hp', hs⟩
      obtain ⟨a, ha⟩ := hstr p hp'
      rw [ha] at hs
      exact ⟨p, hp', by rw [ha]; simpa [Lit.sameKey, strOf] using hs⟩

theorem keyList_of {β : Type} {f : ByteArray → Option β} {D : DataW Unit} {ss : List (List UInt8)} (hnd : (strKeys D).Nodup) (hm : ∀ x, x ∈ strKeys D ↔ Maps.has D (.string x) = true) (hp : ss.Perm (strKeys D))
    (hf : ∀ k : ByteArray, Maps.has D (.string k.data.toList) = true ↔ f k ≠ none) : KeyList f ((ss.mergeSort leB).map fun l => (⟨l.toArray⟩ : ByteArray)) := by
  have hnd' : (ss.mergeSort leB).Nodup := ((List.mergeSort_perm ss leB).trans hp).nodup_iff.2 hnd
  refine ⟨?_, fun k => ?_⟩
  · rw [List.pairwise_map]
    have h1 := List.pairwise_mergeSort leB_tr leB_to ss
    refine (h1.and hnd').imp fun {a b} ⟨h, hne⟩ => ?_
    simp only [leB, decide_eq_true_eq] at h
    simp only
    rcases Decidable.em (a < b) with hl | hl
    · exact hl
    · exact absurd (List.le_antisymm h (by exact hl)) hne
  · rw [← hf k, ← hm, List.mem_map]
    constructor
    · rintro ⟨l, hl, rfl⟩
      exact hp.mem_iff.1 ((List.mergeSort_perm ss leB).mem_iff.1 hl)
    · intro h
      exact ⟨k.data.toList, (List.mergeSort_perm ss leB).mem_iff.2 (hp.mem_iff.2 h), by simp⟩

theorem sortsS (m : Nat) : AnyZ.SortsIn Try.prog Try.sortedS_ren Fence.wide m :=
  ⟨fun blk off cap ss W hH hblk hsz => callsIn_wide.2 (AnyM.slices_Sort_string Try.sortS blk off cap ss W hH hblk hsz),
   fun p cap W => callsIn_wide.2 (AnyM.slices_Sort_string_none Try.sortS p cap W)⟩

/-- maps.Keys. -/
theorem maps_keys (mb : Option Nat) (W : World) : Calls Try.prog 42 #[.map mb] W fun e w' => e = .returned (.func (.func 57) #[] #[.pointer (some ⟨W.heap.size, 0, none⟩)]) ∧ w' = W.alloc (.cells #[.map mb] 40) :=
  (callsIn_wide (n := 5)).1 (AnyZ.keys_in Try.keysS Fence.wide 5 trivial rfl mb W)

set_option maxHeartbeats 1000000 in
theorem sorted_at (b nn : Nat) (D0 : DataW Unit) (R : Value → Option (DataW Unit × List MemPlace)) (w : World) (hown : w.ownsMap Try.prog 9 R b nn D0) (hmax : Maps.size D0 ≤ maxLen) (hbytes : Maps.size D0 * 16 ≤ 140737488355328) :
    Calls Try.prog 41 #[.func (.func 57) #[] #[.pointer (some ⟨w.heap.size, 0, none⟩)]] (w.alloc (.cells #[.map (some b)] 40)) fun e w' => ∃ (v : Value) (ss : List (List UInt8)), e = .returned v ∧ ss.Perm (strKeys D0) ∧
      w'.ownsRow (w.alloc (.cells #[.map (some b)] 40)).heap.size 9 1 v ss.length ((ss.mergeSort (fun x y => decide (x ≤ y))).map encStr) ∧ (v = .slice none 0 0 ↔ ss = []) ∧ Below (w.alloc (.cells #[.map (some b)] 40)).heap.size (w.alloc (.cells #[.map (some b)] 40)) w' := by
  have hbl := hown.lt
  have hseq : SeqGives Fence.wide 2 Try.prog 57 #[.pointer (some ⟨w.heap.size, 0, none⟩)] encStr (fun ss => ss.Perm (strKeys D0)) (Maps.size D0) (w.alloc (.cells #[.map (some b)] 40)) :=
    AnyZ.keys_gives (ρ := Try.keysS_ren) { Try.keysS with } Fence.wide _ trivial rfl (by omega) w.heap.size b nn D0 _ (by simp) (by simp) (by
      obtain ⟨es, clock, hb, Ft, hs, hD⟩ := hown
      exact ⟨es, clock, (Below.heap_alloc _ _ b hbl).trans hb, Ft, hs, hD⟩)
  exact (callsIn_wide (n := 5)).1 (AnyZ.sorted_in Try.sortedS Fence.wide 5 trivial trivial trivial trivial rfl (by omega) (sortsS _) (enters_of Try.func56 (by kernel_rfl) rfl) 57 #[.pointer (some ⟨w.heap.size, 0, none⟩)] trivial (enters_of Try.func57 (by kernel_rfl) rfl) _ _ hmax hbytes _ hseq)

theorem size_own {H : Type} {P : Program} {kt : TypeId} {w : World} {b n : Nat} {R : Value → Option (DataW H × List MemPlace)} {D : DataW H} (h : w.ownsMap P kt R b n D) : Maps.size D ≤ n := by
  obtain ⟨es, clock, _, _, hs, rfl⟩ := h
  rw [Maps.size_eq, Go.length_sorted]
  simpa using hs

/-- slices.Sorted at what maps.Keys has handed back. -/
theorem sorted_keys {w : World} {b n : Nat} {D : DataW Unit} {β : Type} {f : ByteArray → Option β} (h : w.ownsMap Try.prog 9 anyE b n D) (hf : ∀ k : ByteArray, Maps.has D (.string k.data.toList) = true ↔ f k ≠ none) (hn : n ≤ 4294967296) :
    Calls Try.prog 41 #[.func (.func 57) #[] #[.pointer (some ⟨w.heap.size, 0, none⟩)]] (w.alloc (.cells #[.map (some b)] 40)) fun e w' => ∃ (v : Value) (l : List ByteArray), e = .returned v ∧ KeyList f l ∧ l.length ≤ n ∧
      w'.ownsRow w.heap.size 9 1 v l.length (l.map Value.string) ∧ Keeps Nil w w' := by
  have hsz := size_own h
  obtain ⟨hnd, hm⟩ := has_keys Try.underlying9 h
  refine (sorted_at b n D anyE w h (by unfold maxLen; omega) (by omega)).mono ?_
  rintro e w' ⟨v, ss, rfl, hp, hrow, _, hb⟩
  have hlen : ((ss.mergeSort leB).map fun l => (⟨l.toArray⟩ : ByteArray)).length = ss.length := by simp
  refine ⟨v, _, rfl, keyList_of hnd hm hp hf, ?_, ?_, ?_⟩
  · rw [hlen, hp.length_eq]
    have : (strKeys D).length = Maps.size D := by
      obtain ⟨es, rfl, _⟩ := h.canonK (string_keyed Try.underlying9)
      simp [strKeys, Maps.size_eq]
    omega
  · rw [hlen, List.map_map]
    exact ownsRow_base_a hrow (by simp)
  · exact ((Keeps.refl Nil w).alloc _).same (Keeps.of_below hb (Nat.le_refl _))

/-- maps.Clone. -/
theorem maps_clone {β : Type} {w : World} {b n : Nat} {R : β → Value} {f : ByteArray → Option β} (h : MapF w b Value.string R n f) :
    Calls Try.prog 49 #[.map (some b)] w fun e w' => e = .returned (.map (some w.heap.size)) ∧ MapF w' w.heap.size Value.string R n f ∧ Keeps Nil w w' := by
  obtain ⟨es, clock, hb, h2⟩ := h
  refine (AnyW.maps_Clone Try.cloneS b es clock w hb).mono ?_
  rintro e w' ⟨he, rfl⟩
  exact ⟨he, ⟨es, clock, (heap_alloc w _).1, h2⟩, (Keeps.refl _ _).alloc _⟩

/-- maps.Copy: the keys of both. -/
theorem maps_copy {w : World} {bd bs nd ns : Nat} {Dd Ds : DataW Unit} (hd : w.ownsMap Try.prog 9 anyE bd nd Dd) (hs : w.ownsMap Try.prog 9 anyE bs ns Ds) (hne : bd ≠ bs) (hn : nd + ns ≤ 4294967296) :
    Calls Try.prog 50 #[.map (some bd), .map (some bs)] w fun e w' => e = .returned (.tuple #[]) ∧ (∃ D, w'.ownsMap Try.prog 9 anyE bd (nd + ns) D ∧ ∀ x, Maps.has D (.string x) = (Maps.has Dd (.string x) || Maps.has Ds (.string x))) ∧ Keeps (One bd) w w' := by
  have hz := size_own hs
  refine (AnyX.maps_Copy Try.copyS (string_keyed Try.underlying9) anyE bd bs nd ns Dd Ds w hd hs hne (by unfold maxLen; omega)).mono ?_
  rintro e w' ⟨he, h1, _, h3⟩
  refine ⟨he, ⟨_, h1.mono (by omega), fun x => ?_⟩, Keeps.of_grown h3 fun b hb => .inl (by injection hb with hb; exact hb.symm)⟩
  obtain ⟨ed, rfl, _, _⟩ := hd.canonK (string_keyed Try.underlying9)
  obtain ⟨es, rfl, _, hk⟩ := hs.canonK (string_keyed Try.underlying9)
  show Maps.has (es.foldl (fun D p => D.put p.1 p.2) (.map ed)) _ = _
  rw [Maps.has_foldPut _ _ _ ⟨_, rfl⟩ (fun p hp => ?_)]
  · rfl
  · obtain ⟨v, hv⟩ := hk p hp
    obtain ⟨x, _, hx, _⟩ := Maps.keyOf_str Try.underlying9 hv
    rw [hx]
    trivial
end Go.Proofs.Ytmjlbpgngahgmaa
