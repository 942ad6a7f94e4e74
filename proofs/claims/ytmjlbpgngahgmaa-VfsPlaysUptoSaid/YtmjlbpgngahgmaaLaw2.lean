/- The law's looks: the two disks look alike. No conditions but sizes. -/
import Derived.Test.YtmjlbpgngahgmaaAp1
import Derived.Test.YtmjlbpgngahgmaaSim3
import Derived.Test.YtmjlbpgngahgmaaRef8
import Derived.Deep.DrawnRows
namespace Go.Proofs.Ytmjlbpgngahgmaa
open Go.RowKit
set_option linter.unusedSimpArgs false
attribute [local go_sem ↓] Go.wp_at_zero Go.wp_at_succ

/-- What stays while one looks. -/
structure LookAt (w0 w : World) (n B rf rn rk : Nat) (d : DK) (C : Nat) (vF vN vK : Value) (r : RD) (a b : Value) (base1 base2 : Nat) (l : List ByteArray) : Prop where
  disk : DiskAt w n B rf rn rk d
  ref : RefAt w n C vF vN vK r
  la : OwnTexts w base1 a l
  lb : OwnTexts w base2 b l
  kept : Keeps Nil w0 w
theorem LookAt.keeps {w0 w w' : World} {n B rf rn rk : Nat} {d : DK} {C : Nat} {vF vN vK : Value} {r : RD} {a b : Value} {base1 base2 : Nat} {l : List ByteArray} (h : LookAt w0 w n B rf rn rk d C vF vN vK r a b base1 base2 l) (k : Keeps Nil w w') :
    LookAt w0 w' n B rf rn rk d C vF vN vK r a b base1 base2 l ∧ DiskAt w' n B rf rn rk d ∧ RefAt w' n C vF vN vK r ∧ OwnTexts w' base1 a l ∧ OwnTexts w' base2 b l ∧ w'.cell? ⟨C, 4, none⟩ = some (.int .i64 r.steps) ∧ w'.cell? ⟨C, 7, none⟩ = some (.bool r.down) := by
  have h1 := h.disk.keeps k (fun _ _ h => h)
  have h2 := h.ref.keeps k (fun _ _ h => h)
  have h3 := h.la.keeps k (fun _ _ h => h)
  have h4 := h.lb.keeps k (fun _ _ h => h)
  exact ⟨⟨h1, h2, h3, h4, h.kept.same k⟩, h1, h2, h3, h4, h2.c4, h2.c7⟩

theorem LookAt.last {w0 w w' : World} {n B rf rn rk : Nat} {d : DK} {C : Nat} {vF vN vK : Value} {r : RD} {a b : Value} {base1 base2 : Nat} {l : List ByteArray} {o : Obj} (h : LookAt w0 w n B rf rn rk d C vF vN vK r a b base1 base2 l)
    (hna : ∀ g, OwnB a g ∨ OwnB b g → w0.heap.size ≤ g) (hC : C < w0.heap.size) (k : Keeps (AllB 2 (fun k => if k = 0 then a else b)) (w.alloc o) w') :
    Keeps Nil w0 w' ∧ w'.cell? ⟨C, 4, none⟩ = some (.int .i64 r.steps) ∧ w'.cell? ⟨C, 7, none⟩ = some (.bool r.down) := by
  have hno : ∀ g, AllB 2 (fun k => if k = 0 then a else b) g → w0.heap.size ≤ g := by
    rintro g ⟨k, hk, hg⟩
    have h1 : k = 0 ∨ k = 1 := by omega
    rcases h1 with rfl | rfl
    · exact hna g (.inl hg)
    · exact hna g (.inr hg)
  have hal := h.ref.keeps ((Keeps.refl Nil w).alloc o) (fun _ _ h => h)
  have hCn : ¬ AllB 2 (fun k => if k = 0 then a else b) C := fun hg => by have := hno C hg; omega
  refine ⟨(h.kept.alloc o).trans k fun g hg hl => ?_, (k.cell (p := ⟨C, 4, none⟩) hal.blk.lt hCn).trans hal.c4, (k.cell (p := ⟨C, 7, none⟩) hal.blk.lt hCn).trans hal.c7⟩
  have := hno g hg
  omega

theorem lists_two {w : World} {ba bb : Nat} {a b : Value} {l : List ByteArray} (ha : OwnTexts w ba a l) (hb : OwnTexts w bb b l) (hap : ∀ g, OwnB a g → ¬ OwnB b g) (hl : l.length ≤ 1073741824) :
    ListsAt (w.alloc (.cells #[a, b] 50)) 2 w.heap.size (fun k => if k = 0 then a else b) (fun _ => l) #[a, b] := by
  have row : ∀ (v : Value) (base : Nat), OwnTexts w base v l → RowOf (w.alloc (.cells #[a, b] 50)) 9 1 encS v l := fun v base h => by
    have h' := h.keeps ((Keeps.refl Nil w).alloc (.cells #[a, b] 50)) (fun _ _ h => h)
    refine ⟨by rw [flat_texts]; exact h'.1, ?_⟩
    rcases h'.2 with h2 | ⟨g, cap, cur, h3, _, h4⟩
    · exact .inl h2
    · exact .inr ⟨g, cap, cur, h3, Nat.zero_le _, by rw [flat_texts]; exact h4⟩
  refine ⟨Blk.new w _ _, fun k hk => ?_, fun k hk => ?_, fun i j hi hj hij g hg => ?_, fun k hk => hl⟩
  · have : k = 0 ∨ k = 1 := by omega
    rcases this with rfl | rfl <;> rfl
  · have : k = 0 ∨ k = 1 := by omega
    rcases this with rfl | rfl
    · exact row _ _ ha
    · exact row _ _ hb
  · have h1 : i = 0 ∨ i = 1 := by omega
    have h2 : j = 0 ∨ j = 1 := by omega
    rcases h1 with rfl | rfl <;> rcases h2 with rfl | rfl
    · exact absurd rfl hij
    · exact hap g hg
    · exact fun hg' => hap g hg' hg
    · exact absurd rfl hij

theorem keeps_n {w w' : World} (h : ∃ n, w' = w.drewN n) : Keeps Nil w w' := by
  obtain ⟨n, rfl⟩ := h
  exact (Keeps.refl Nil w).drewN n

set_option maxRecDepth 100000 in
set_option maxHeartbeats 8000000 in
theorem law_looks {w : World} {n B rf rn rk : Nat} {d : DK} {C : Nat} {vF vN vK : Value} {r : RD} (hD : DiskAt w n B rf rn rk d) (hR : RefAt w n C vF vN vK r) (S : Sim d r) (x : ByteArray) (hx : x.size ≤ 9223372036854775807) :
    Calls Try.prog 8 #[.pointer (some ⟨B, 0, none⟩), .pointer (some ⟨C, 0, none⟩), .string x] w fun e w' => e = .returned (.bool true) ∧ Keeps Nil w w' := by
  have hrd := S.read x
  have hCl := hR.blk.lt
  have hst := S.steps
  have hdn := S.down
  have hn1 := hD.ok.n1
  have hpl := S.placed x
  have hls := fun (l : List ByteArray) (hl : d.Lists l) => S.list hl
  have HLS := Lib.hid hls
  have HPL := Lib.hid hpl
  have Hrd := Lib.hid hrd
  have Hst := Lib.hid hst
  have Hdn := Lib.hid hdn
  clear hrd hst hdn hls hpl S
  go_enter Try.func8, Try.ntmps8
  go_wp2_with fail
  refine (vfs_read hD x).mono ?_
  rintro e w1 ⟨rfl, hK1⟩
  rw [Hrd.out]
  have hD1 := hD.keeps hK1 (fun _ _ h => h)
  have hR1 := hR.keeps hK1 (fun _ _ h => h)
  clear hD hR
  go_wp2_with fail
  refine (ref_read hR1 x hx HPL.out).mono ?_
  rintro e w2 ⟨rfl, hK2⟩
  have hD2 := hD1.keeps hK2 (fun _ _ h => h)
  have hR2 := hR1.keeps hK2 (fun _ _ h => h)
  have hK02 := hK1.same hK2
  have hK02' := hK02
  clear hD1 hR1 hK1 hK2 Hrd
  generalize r.read x = rd at *
  obtain ⟨rs, re⟩ := rd
  have hbq := texts_beq rs
  go_wp2_with fail
  refine (vfs_list hD2).mono ?_
  rintro e w3 ⟨a, l, rfl, hl, hln, hla, hK3⟩
  obtain rfl := HLS.out l hl
  have hD3 := hD2.keeps hK3 (fun _ _ h => h)
  have hR3 := hR2.keeps hK3 (fun _ _ h => h)
  have hK03 := hK02.same hK3
  have hK3' := hK3
  clear hD2 hR2 hK02 hK3 hl
  go_wp2_with fail
  refine (vfs_list hD3).mono ?_
  rintro e w4 ⟨b, l, rfl, hl, _, hlb, hK4⟩
  obtain rfl := HLS.out l hl
  have hL4 : LookAt w w4 n B rf rn rk d C vF vN vK r a b w2.heap.size w3.heap.size r.list := ⟨hD3.keeps hK4 (fun _ _ h => h), hR3.keeps hK4 (fun _ _ h => h), hla.keeps hK4 (fun _ _ h => h), hlb, hK03.same hK4⟩
  have z2 := hK02'.size
  have z3 := hK3'.size
  have hap : ∀ g, OwnB a g → ¬ OwnB b g := fun g hg hg' => by
    have h1 := (World.ownsRow.lt hla g hg).2
    have h2 := (World.ownsRow.lt hlb g hg').1
    omega
  have hna : ∀ g, OwnB a g ∨ OwnB b g → w.heap.size ≤ g := fun g hg => by
    rcases hg with hg | hg
    · have := (World.ownsRow.lt hla g hg).1
      omega
    · have := (World.ownsRow.lt hlb g hg).1
      omega
  have Hap := Lib.hid hap
  have Hna := Lib.hid hna
  clear hap hna z2 z3 hD3 hR3 hK03 hK4 hl HLS HPL hla hlb hK02' hK3'
  have hln' : r.list.length ≤ 1073741824 := by omega
  have hln2 : r.list.length ≤ 4294967296 := by omega
  obtain ⟨Aa, ca, hea, _, _⟩ := hL4.la.cells
  subst hea
  obtain ⟨Ab, cb, heb, _, _⟩ := hL4.lb.cells
  subst heb
  obtain ⟨hL5, p1, p2, p3, p4, p5, p6⟩ := hL4.keeps ((Keeps.refl Nil w4).drew)
  clear hL4
  go_wp2_with fail
  go_region_held3 (fun w' => w'.cell? ⟨C, 4, none⟩ = some (.int .i64 r.steps) ∧ w'.cell? ⟨C, 7, none⟩ = some (.bool r.down))
    (first | exact ⟨by assumption, by assumption⟩ | go_keep)
    (first
      | (go_at_call 13; refine (vfs_steps (by assumption)).mono ?_; rintro e w5 ⟨rfl, rfl⟩; rw [Hst.out])
      | (go_at_call 32; refine (vfs_down (by assumption)).mono ?_; rintro e w5 ⟨rfl, rfl⟩; rw [Hdn.out])
      | (go_at_call 33; refine (vfs_name _ _).mono ?_; rintro e w5 ⟨rfl, hk⟩; obtain ⟨hL5, p1, p2, p3, p4, p5, p6⟩ := LookAt.keeps (by assumption) hk)
      | (go_at_call 34; refine (ref_name _ _ hx).mono ?_; rintro e w5 ⟨rfl, rfl⟩)
      | (go_at_call 35; refine (ref_list (by assumption)).mono ?_; rintro e w5 ⟨v5, rfl, ho5, hk⟩; obtain ⟨hL5, p1, p2, p3, p4, p5, p6⟩ := LookAt.keeps (by assumption) hk)
      | (go_at_call 14; refine (ref_same (by assumption) (by assumption) hln2).mono ?_; rintro e w5 ⟨rfl, hkn⟩; have hk := keeps_n hkn; clear hkn; obtain ⟨hL5, p1, p2, p3, p4, p5, p6⟩ := LookAt.keeps (by assumption) hk)
      | (go_at_call 36; refine (ref_apart (lists_two (by assumption) (by assumption) Hap.out hln') (by decide) _).mono ?_; rintro e w5 ⟨rfl, hk⟩; obtain ⟨hfin, p5, p6⟩ := LookAt.last (by assumption) Hna.out hCl hk))
  go_wp2
  go_ret
  exact ⟨rfl, hfin⟩
end Go.Proofs.Ytmjlbpgngahgmaa
