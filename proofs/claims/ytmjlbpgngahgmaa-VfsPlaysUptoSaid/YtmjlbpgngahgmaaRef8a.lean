/- What a restart of the document's disk comes to, as a Lean value; relations of its loops. No conditions. -/
import Derived.Test.YtmjlbpgngahgmaaRef7
namespace Go.Proofs.Ytmjlbpgngahgmaa
open Go.RowKit
set_option linter.unusedSimpArgs false

def allStep (kept : List (ByteArray × Int)) (a : List (ByteArray × Int)) (p : ByteArray × Int) : List (ByteArray × Int) := if findL kept p.1 = 0 then linkL a p.1 p.2 else a
def allF (kept names : List (ByteArray × Int)) (k : Nat) : List (ByteArray × Int) := (names.take k).foldl (allStep kept) kept
theorem allF_succ (kept names : List (ByteArray × Int)) (k : Nat) (h : k < names.length) : allF kept names (k + 1) = allStep kept (allF kept names k) names[k] := by
  unfold allF
  rw [List.take_succ_eq_append_getElem h, List.foldl_append]
  rfl

/-- One name is kept, or lost. -/
def linkKeep (kept names : List (ByteArray × Int)) (L : Int) (s : Int × List (ByteArray × Int)) (p : ByteArray × Int) : Int × List (ByteArray × Int) :=
  let i := if findL kept p.1 ≠ findL names p.1 then s.1 + 1 else s.1
  let z := if findL kept p.1 ≠ findL names p.1 ∧ mixI (IntKind.u64.wrap L) i % 2 = 1 then findL names p.1 else findL kept p.1
  (i, if z = 0 then s.2 else s.2 ++ [(p.1, z)])
/-- One file is kept, or its beginning. -/
def fileKeep (files : List (Int × ByteArray × Int)) (L : Int) (s : Int × List (Int × ByteArray × Int)) (p : ByteArray × Int) : Int × List (Int × ByteArray × Int) :=
  if 0 ≤ placeL s.2 p.2 0 then s else
    let f := (files[(placeL files p.2 0).toNat]?).getD (0, ⟨#[]⟩, 0)
    if f.2.1.size - f.2.2 > 0 then
      let data := f.2.1.extract 0 (f.2.2 + mixI (IntKind.u64.wrap L) (s.1 + 1) % (f.2.1.size - f.2.2 + 1)).toNat
      (s.1 + 1, s.2 ++ [(f.1, data, (data.size : Int))])
    else (s.1, s.2 ++ [(f.1, f.2.1, (f.2.1.size : Int))])
def RD.all (r : RD) : List (ByteArray × Int) := allF r.kept r.names r.names.length
def RD.keepL (r : RD) (L : Int) (k : Nat) : Int × List (ByteArray × Int) := (r.all.take k).foldl (linkKeep r.kept r.names L) (0, [])
def RD.left (r : RD) (L : Int) : Int × List (ByteArray × Int) := r.keepL L r.all.length
def RD.keepF (r : RD) (L : Int) (k : Nat) : Int × List (Int × ByteArray × Int) := ((r.left L).2.take k).foldl (fileKeep r.files L) ((r.left L).1, [])
def RD.restart (r : RD) (L : Int) : RD :=
  { r with files := (r.keepF L (r.left L).2.length).2, names := (r.left L).2, kept := (r.left L).2, down := false, armed := -1 }

structure AllRel (w : World) (kept names : List (ByteArray × Int)) (k : Nat) (v : Value) (wr : World) : Prop where
  row : RowOf wr 37 2 encL v (allF kept names k)
  len : (allF kept names k).length ≤ kept.length + k
  keep : Keeps Nil w wr

theorem RD.keepL_succ (r : RD) (L : Int) (k : Nat) (h : k < r.all.length) : r.keepL L (k + 1) = linkKeep r.kept r.names L (r.keepL L k) r.all[k] := by
  unfold RD.keepL
  rw [List.take_succ_eq_append_getElem h, List.foldl_append]
  rfl
structure KeepRel (w : World) (r : RD) (L : Int) (k : Nat) (kk : Int) (v : Value) (wr : World) : Prop where
  row : RowOf wr 37 2 encL v (r.keepL L k).2
  num : (r.keepL L k).1 = kk
  lo : 0 ≤ kk
  hi : kk ≤ k
  len : (r.keepL L k).2.length ≤ k
  new : ∀ g, OwnB v g → w.heap.size ≤ g
  keep : Keeps Nil w wr
theorem KeepRel.next {w w' : World} {r : RD} {L : Int} {k : Nat} {kk : Int} {v' : Value} {out : List (ByteArray × Int)} (hk : k < r.all.length)
    (he : linkKeep r.kept r.names L (r.keepL L k) r.all[k] = (kk, out)) (hr : RowOf w' 37 2 encL v' out) (h0 : 0 ≤ kk) (h1 : kk ≤ k + 1) (hl : out.length ≤ k + 1) (hn : ∀ g, OwnB v' g → w.heap.size ≤ g) (hK : Keeps Nil w w') :
    KeepRel w r L (k + 1) kk v' w' := by
  have e := (r.keepL_succ L k hk).trans he
  exact ⟨by rw [e]; exact hr, by rw [e], h0, by simpa using h1, by rw [e]; exact hl, hn, hK⟩

theorem RD.keepF_succ (r : RD) (L : Int) (k : Nat) (h : k < (r.left L).2.length) : r.keepF L (k + 1) = fileKeep r.files L (r.keepF L k) (r.left L).2[k] := by
  unfold RD.keepF
  rw [List.take_succ_eq_append_getElem h, List.foldl_append]
  rfl
structure FileRel (w : World) (r : RD) (L : Int) (k : Nat) (kk : Int) (v : Value) (wr : World) : Prop where
  row : RowOf wr 76 3 encF v (r.keepF L k).2
  num : (r.keepF L k).1 = kk
  lo : 0 ≤ kk
  hi : kk ≤ 1073741824 + k
  len : (r.keepF L k).2.length ≤ k
  new : ∀ g, OwnB v g → w.heap.size ≤ g
  keep : Keeps Nil w wr
theorem FileRel.next {w w' : World} {r : RD} {L : Int} {k : Nat} {kk : Int} {v' : Value} {out : List (Int × ByteArray × Int)} (hk : k < (r.left L).2.length)
    (he : fileKeep r.files L (r.keepF L k) (r.left L).2[k] = (kk, out)) (hr : RowOf w' 76 3 encF v' out) (h0 : 0 ≤ kk) (h1 : kk ≤ 1073741824 + (k + 1)) (hl : out.length ≤ k + 1) (hn : ∀ g, OwnB v' g → w.heap.size ≤ g) (hK : Keeps Nil w w') :
    FileRel w r L (k + 1) kk v' w' := by
  have e := (r.keepF_succ L k hk).trans he
  exact ⟨by rw [e]; exact hr, by rw [e], h0, by simpa using h1, by rw [e]; exact hl, hn, hK⟩

end Go.Proofs.Ytmjlbpgngahgmaa
