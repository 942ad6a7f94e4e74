/- The document's disk: link, List, Read. No conditions but sizes. -/
import Derived.Test.YtmjlbpgngahgmaaRef2
namespace Go.Proofs.Ytmjlbpgngahgmaa
open Go.RowKit

def linkStep (x : ByteArray) (n : Int) (s : List (ByteArray × Int) × Bool) (p : ByteArray × Int) : List (ByteArray × Int) × Bool :=
  if p.1 = x then s else if s.2 = false ∧ Op.bytesLess x.toList p.1.toList = true then ((s.1 ++ [(x, n)]) ++ [p], true) else (s.1 ++ [p], s.2)
def linkF (l : List (ByteArray × Int)) (x : ByteArray) (n : Int) (k : Nat) : List (ByteArray × Int) × Bool := (l.take k).foldl (linkStep x n) ([], n == 0)
def linkL (l : List (ByteArray × Int)) (x : ByteArray) (n : Int) : List (ByteArray × Int) :=
  if (linkF l x n l.length).2 then (linkF l x n l.length).1 else (linkF l x n l.length).1 ++ [(x, n)]
theorem linkF_succ (l : List (ByteArray × Int)) (x : ByteArray) (n : Int) (k : Nat) (h : k < l.length) : linkF l x n (k + 1) = linkStep x n (linkF l x n k) l[k] := by
  unfold linkF
  rw [List.take_succ_eq_append_getElem h, List.foldl_append]
  rfl

structure LinkRel (w : World) (l : List (ByteArray × Int)) (x : ByteArray) (n : Int) (k : Nat) (v : Value) (b : Bool) (wr : World) : Prop where
  row : RowOf wr 37 2 encL v (linkF l x n k).1
  flag : b = (linkF l x n k).2
  len : (linkF l x n k).1.length ≤ k + (if (linkF l x n k).2 then 1 else 0)
  new : ∀ g, OwnB v g → w.heap.size ≤ g
  keep : Keeps Nil w wr
theorem LinkRel.next {w w' : World} {l : List (ByteArray × Int)} {x : ByteArray} {n : Int} {k : Nat} {v' : Value} {b' : Bool} {out : List (ByteArray × Int)} (hk : k < l.length)
    (he : linkStep x n (linkF l x n k) l[k] = (out, b')) (hr : RowOf w' 37 2 encL v' out) (hl : out.length ≤ k + 1 + (if b' then 1 else 0)) (hn : ∀ g, OwnB v' g → w.heap.size ≤ g) (hK : Keeps Nil w w') :
    LinkRel w l x n (k + 1) v' b' w' := by
  have e := (linkF_succ l x n k hk).trans he
  exact ⟨by rw [e]; exact hr, by rw [e], by rw [e]; exact hl, hn, hK⟩

set_option maxRecDepth 100000 in
set_option maxHeartbeats 4000000 in
theorem ref_link {w : World} {v : Value} {l : List (ByteArray × Int)} (hr : RowOf w 37 2 encL v l) (hl : l.length ≤ 1073741824) (x : ByteArray) (n : Int) :
    Calls Try.prog 45 #[v, .string x, .int .i64 n] w fun e w' => ∃ v', e = .returned v' ∧ RowOf w' 37 2 encL v' (linkL l x n) ∧ Keeps Nil w w' ∧ (∀ g, OwnB v' g → w.heap.size ≤ g) ∧ (linkL l x n).length ≤ l.length + 1 := by
  obtain ⟨A, c, rfl, _, hA⟩ := hr.form encL_enc
  have HA := Lib.hid hA
  clear hA
  go_enter Try.func45, Try.ntmps45
  go_wp2
  go_loopw [7, 8, 9] (fun u b i wr => ∃ (k : Nat) (bb : Bool), k ≤ l.length ∧ i = .int .i64 k ∧ b = .bool bb ∧ LinkRel w l x n k u bb wr) (fun _ _ i _ => l.length - (intOf i).toNat)
  case atStart => exact ⟨0, n == 0, Nat.zero_le _, rfl, rfl, ⟨RowOf.nil _ _ _ _, rfl, by simp [linkF], (fun g h => by cases h), Keeps.refl _ _⟩⟩
  case round =>
    obtain ⟨k, bb, hk, rfl, rfl, hR⟩ := hrel
    by_cases hlt : k < l.length
    · obtain ⟨g, rfl, hgo, hgl, hcl0, hcl⟩ := HA.out k hlt
      have h0 := (hR.keep.cell (p := ⟨g, k * 2, none⟩) hgl (fun h => h)).trans (hcl0 (.string l[k].1) rfl).1
      have h1 := (hR.keep.cell (p := ⟨g, k * 2 + 1, none⟩) hgl (fun h => h)).trans (hcl 1 (.int .i64 l[k].2) rfl).1
      clear hcl hcl0
      have hlt' : (k : Int) < (l.length : Int) := by omega
      generalize hpp : l[k] = p at h0 h1
      have Hp := Lib.hid hpp
      clear hpp
      have hrow := hR.row
      have hlen := hR.len
      have hflag := hR.flag
      generalize hs : linkF l x n k = s at hrow hlen hflag
      have Hs := Lib.hid hs
      clear hs
      obtain ⟨out, b0⟩ := s
      simp only at hrow hlen hflag
      subst hflag
      obtain ⟨pn, pv⟩ := p
      simp only at h0 h1
      have hksz := hR.keep.size
      by_cases hp : pn = x
      · have hb := bytes_beq_true hp
        have he : linkStep x n (out, bb) (pn, pv) = (out, bb) := by simp only [linkStep, if_pos hp]
        have HE := Lib.hid he
        clear he hp
        go_wp2
        go_roundw
        case rel => exact ⟨k + 1, bb, by omega, by go_num, rfl, LinkRel.next hlt (by rw [Hs.out, Hp.out]; exact HE.out) hrow (by omega) hR.new hR.keep⟩
        case measure => simp [intOf]; omega
      · have hb := bytes_beq_false hp
        have hbl : Blk (wr.alloc (.cells #[.string pn, .int .i64 pv] 37)) wr.heap.size 37 (encL (pn, pv)).toArray := Blk.new wr _ _
        cases bb with
        | true =>
          have he : linkStep x n (out, true) (pn, pv) = (out ++ [(pn, pv)], true) := by simp [linkStep, hp]
          have HE := Lib.hid he
          clear he hp
          simp only [if_true] at hlen
          go_wp2_with (at_builtin; refine wpList_row_append rfl (.tmp 42) (.tmp 47) rfl elL encL_enc (hrow.keeps ((Keeps.refl Nil wr).alloc _) (fun _ _ h => h)) rfl wr.heap.size 1 rfl (pn, pv) hbl (by omega) (by omega) ?_; intro v1 w1 hr1 hk1 hv1)
          obtain ⟨q1, q2⟩ := own_step hR.new (hR.keep.alloc _) hk1 hv1
          go_roundw
          case rel => exact ⟨k + 1, true, by omega, by go_num, rfl, LinkRel.next hlt (by rw [Hs.out, Hp.out]; exact HE.out) hr1 (by simp; omega) q1 q2⟩
          case measure => simp [intOf]; omega
        | false =>
          simp only [Bool.false_eq_true, if_false] at hlen
          cases hlb : Op.bytesLess x.toList pn.toList with
          | true =>
            have he : linkStep x n (out, false) (pn, pv) = ((out ++ [(x, n)]) ++ [(pn, pv)], true) := by simp [linkStep, hp, hlb]
            have HE := Lib.hid he
            clear he hp
            have hbx : Blk (wr.alloc (.cells #[.string x, .int .i64 n] 37)) wr.heap.size 37 (encL (x, n)).toArray := Blk.new wr _ _
            clear hbl
            go_wp2_with (first
              | (at_builtin; refine wpList_row_append rfl (.tmp 36) (.tmp 40) rfl elL encL_enc (hrow.keeps ((Keeps.refl Nil wr).alloc _) (fun _ _ h => h)) rfl wr.heap.size 1 rfl (x, n) hbx (by omega) (by omega) ?_; intro v1 w1 hr1 hk1 hv1; have hq := own_step hR.new (hR.keep.alloc _) hk1 hv1; have z0 := (hq.2.cell (p := ⟨g, k * 2, none⟩) hgl (fun h => h)).trans ((hR.keep.cell (p := ⟨g, k * 2, none⟩) hgl (fun h => h)).symm.trans h0); have z1 := (hq.2.cell (p := ⟨g, k * 2 + 1, none⟩) hgl (fun h => h)).trans ((hR.keep.cell (p := ⟨g, k * 2 + 1, none⟩) hgl (fun h => h)).symm.trans h1); have hb2 : Blk (w1.alloc (.cells #[.string pn, .int .i64 pv] 37)) w1.heap.size 37 (encL (pn, pv)).toArray := Blk.new w1 _ _)
              | (at_builtin; refine wpList_row_append rfl (.tmp 42) (.tmp 47) rfl elL encL_enc (hr1.keeps ((Keeps.refl Nil w1).alloc _) (fun _ _ h => h)) rfl w1.heap.size 1 rfl (pn, pv) hb2 (by simp; omega) (by simp; omega) ?_; intro v2 w2 hr2 hk2 hv2))
            obtain ⟨q1, q2⟩ := own_step hq.1 (hq.2.alloc _) hk2 hv2
            go_roundw
            case rel => exact ⟨k + 1, true, by omega, by go_num, rfl, LinkRel.next hlt (by rw [Hs.out, Hp.out]; exact HE.out) hr2 (by simp; omega) q1 q2⟩
            case measure => simp [intOf]; omega
          | false =>
            have he : linkStep x n (out, false) (pn, pv) = (out ++ [(pn, pv)], false) := by simp [linkStep, hp, hlb]
            have HE := Lib.hid he
            clear he hp
            go_wp2_with (at_builtin; refine wpList_row_append rfl (.tmp 42) (.tmp 47) rfl elL encL_enc (hrow.keeps ((Keeps.refl Nil wr).alloc _) (fun _ _ h => h)) rfl wr.heap.size 1 rfl (pn, pv) hbl (by omega) (by omega) ?_; intro v1 w1 hr1 hk1 hv1)
            obtain ⟨q1, q2⟩ := own_step hR.new (hR.keep.alloc _) hk1 hv1
            go_roundw
            case rel => exact ⟨k + 1, false, by omega, by go_num, rfl, LinkRel.next hlt (by rw [Hs.out, Hp.out]; exact HE.out) hr1 (by simp; omega) q1 q2⟩
            case measure => simp [intOf]; omega
    · have hke : k = l.length := by omega
      subst hke
      have hlt' : ¬ (l.length : Int) < (l.length : Int) := by omega
      have hrow := hR.row
      have hlen := hR.len
      have hflag := hR.flag
      have hll : linkL l x n = if (linkF l x n l.length).2 then (linkF l x n l.length).1 else (linkF l x n l.length).1 ++ [(x, n)] := rfl
      generalize linkF l x n l.length = s at hrow hlen hflag hll
      obtain ⟨out, b0⟩ := s
      simp only at hrow hlen hflag hll
      subst hflag
      have Hll := Lib.hid hll
      clear hll
      cases bb with
      | true =>
        simp only [if_true] at hlen
        go_wp2
        go_ret
        rw [Hll.out]
        exact ⟨_, rfl, hrow, hR.keep, hR.new, hlen⟩
      | false =>
        simp only [Bool.false_eq_true, if_false] at hlen
        have hbx : Blk (wr.alloc (.cells #[.string x, .int .i64 n] 37)) wr.heap.size 37 (encL (x, n)).toArray := Blk.new wr _ _
        go_wp2_with (at_builtin; refine wpList_row_append rfl (.tmp 51) (.tmp 55) rfl elL encL_enc (hrow.keeps ((Keeps.refl Nil wr).alloc _) (fun _ _ h => h)) rfl wr.heap.size 1 rfl (x, n) hbx (by omega) (by omega) ?_; intro v1 w1 hr1 hk1 hv1)
        obtain ⟨q1, q2⟩ := own_step hR.new (hR.keep.alloc _) hk1 hv1
        go_ret
        rw [Hll.out]
        exact ⟨_, rfl, hr1, q2, q1, by simp; omega⟩
end Go.Proofs.Ytmjlbpgngahgmaa
