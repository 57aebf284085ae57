/- A document's packet as the program's, and back: the same fields. No conditions but that its options read as a list. -/
import Derived.Test.YtelmlkcoeihhjaaLo
import Derived.Deep.RegionHeld3
import Derived.Laws.ResultCell
namespace Go.Proofs.Ytelmlkcoeihhjaa.Lp
open Go.RowKit Go.Proofs.Ytelmlkcoeihhjaa.Fl Go.Proofs.Ytelmlkcoeihhjaa.My Go.Proofs.Ytelmlkcoeihhjaa.Lo Go.Proofs.YtelmlkcoeihhjaaW.PrintWords Go.Proofs.YtelmlkcoeihhjaaW.PrintLast Go.Proofs.YtelmlkcoeihhjaaW.PrintMore
set_option linter.unusedVariables false
set_option linter.unusedSimpArgs false

/-- A packet's value. -/
abbrev pkt (p c i : Int) (A3 : Option Addr) (n3 c3 : Nat) (s m : Int) (A6 : Option Addr) (n6 c6 : Nat) (A7 : Option Addr) (n7 c7 : Nat) (A8 : Option Addr) (n8 c8 : Nat) (A9 : Option Addr) (n9 c9 : Nat) : Value :=
  .agg #[.int .u16 p, .int .u8 c, .int .u8 i, .slice A3 n3 c3, .int .u16 s, .int .u32 m, .slice A6 n6 c6, .slice A7 n7 c7, .slice A8 n8 c8, .slice A9 n9 c9]

theorem new2_0 (w : World) (o o1 : Obj) : ((w.alloc o).alloc o1).heap[w.heap.size]? = some o := by
  show ((w.heap.push o).push o1)[w.heap.size]? = some o
  rw [Array.getElem?_push, if_neg (by simp), Array.getElem?_push, if_pos rfl]
theorem new2_1 (w : World) (o o1 : Obj) : ((w.alloc o).alloc o1).heap[w.heap.size + 1]? = some o1 := by
  show ((w.heap.push o).push o1)[w.heap.size + 1]? = some o1
  rw [Array.getElem?_push, if_pos (by simp)]

theorem cells10 {W : World} {g t : Nat} {v0 v1 v2 v3 v4 v5 v6 v7 v8 v9 : Value} (h : W.heap[g]? = some (.cells #[v0, v1, v2, v3, v4, v5, v6, v7, v8, v9] t (0, 0))) :
    W.cell? ⟨g, 0, none⟩ = some v0 ∧ W.cell? ⟨g, 1, none⟩ = some v1 ∧ W.cell? ⟨g, 2, none⟩ = some v2 ∧ W.cell? ⟨g, 3, none⟩ = some v3 ∧ W.cell? ⟨g, 4, none⟩ = some v4 ∧ W.cell? ⟨g, 5, none⟩ = some v5 ∧ W.cell? ⟨g, 6, none⟩ = some v6 ∧ W.cell? ⟨g, 7, none⟩ = some v7 ∧ W.cell? ⟨g, 8, none⟩ = some v8 ∧ W.cell? ⟨g, 9, none⟩ = some v9 := by
  refine ⟨?_, ?_, ?_, ?_, ?_, ?_, ?_, ?_, ?_, ?_⟩ <;> simp [World.cell?, h]
theorem free10 {W : World} {g t : Nat} {cs : Array Value} (h : W.heap[g]? = some (.cells cs t (0, 0))) (j : Nat) : W.frozen? ⟨g, j, none⟩ = false := by
  simp [World.frozen?, h]

set_option maxHeartbeats 1000000 in
set_option maxRecDepth 100000 in
theorem law15_Of_any (p c i : Int) (A3 : Option Addr) (n3 c3 : Nat) (s m : Int) (A6 : Option Addr) (n6 c6 : Nat) (A7 : Option Addr) (n7 c7 : Nat) (A8 : Option Addr) (n8 c8 : Nat) (A9 : Option Addr) (n9 c9 : Nat) (xs : List S79) (w : World)
    (hC : k79.C w A3 n3 xs) (hlen : n3 * 32 ≤ 140737488351232) :
    Calls Try.prog 18 #[pkt p c i A3 n3 c3 s m A6 n6 c6 A7 n7 c7 A8 n8 c8 A9 n9 c9] w fun e w' => ∃ A' c', e = .returned (pkt p c i A' n3 c' s m A6 n6 c6 A7 n7 c7 A8 n8 c8 A9 n9 c9) ∧ n3 ≤ c' ∧ k80.C w' A' n3 (xs.map of79) ∧ Below w.heap.size w w' := by
  obtain ⟨rows, hr, he⟩ := raw_of hC
  have hrl : rows.length = n3 := hr.1
  have HRL := Aside0.mk hrl
  have HR := Aside0.mk hr
  have HE := Aside0.mk he
  have HO := Aside0.mk (each_rows he fun _ _ => optRow79)
  clear hC hr he
  clear hrl
  go_enter Try.func18, Try.ntmps18
  go_wp2_with (fail)
  obtain ⟨W, hW⟩ : ∃ W, (w.alloc (.cells #[.int .u16 p, .int .u8 c, .int .u8 i, .slice A3 n3 c3, .int .u16 s, .int .u32 m, .slice A6 n6 c6, .slice A7 n7 c7, .slice A8 n8 c8, .slice A9 n9 c9] 45)).alloc (.cells #[.int .u16 0, .int .u8 0, .int .u8 0, .slice none 0 0, .int .u16 0, .int .u32 0, .slice none 0 0, .slice none 0 0, .slice none 0 0, .slice none 0 0] 34) = W := ⟨_, rfl⟩
  have B0 : W.heap[w.heap.size]? = some (.cells #[.int .u16 p, .int .u8 c, .int .u8 i, .slice A3 n3 c3, .int .u16 s, .int .u32 m, .slice A6 n6 c6, .slice A7 n7 c7, .slice A8 n8 c8, .slice A9 n9 c9] 45 (0, 0)) := hW ▸ new2_0 _ _ _
  have B1 : W.heap[w.heap.size + 1]? = some (.cells #[.int .u16 0, .int .u8 0, .int .u8 0, .slice none 0 0, .int .u16 0, .int .u32 0, .slice none 0 0, .slice none 0 0, .slice none 0 0, .slice none 0 0] 34 (0, 0)) := hW ▸ new2_1 _ _ _
  have HB : Aside0 (Below w.heap.size w W) := ⟨by rw [← hW]; exact below_alloc (below_alloc (Below.refl _ _) _) _⟩
  rw [hW]
  clear hW
  obtain ⟨g, hg⟩ : ∃ g, g = w.heap.size := ⟨_, rfl⟩
  have HG := Aside0.mk hg
  rw [← hg] at B0 B1 ⊢
  clear hg
  obtain ⟨q0, q1, q2, q3, q4, q5, q6, q7, q8, q9⟩ := cells10 B0
  have hB0 := Aside0.mk B0
  have hB1 := Aside0.mk B1
  clear B0 B1
  go_region_held3 (fun w' => w'.cell? ⟨g, 0, none⟩ = some (.int .u16 p) ∧ w'.cell? ⟨g, 1, none⟩ = some (.int .u8 c) ∧ w'.cell? ⟨g, 2, none⟩ = some (.int .u8 i) ∧ w'.cell? ⟨g, 3, none⟩ = some (.slice A3 n3 c3) ∧ w'.cell? ⟨g, 4, none⟩ = some (.int .u16 s) ∧ w'.cell? ⟨g, 5, none⟩ = some (.int .u32 m) ∧ w'.cell? ⟨g, 6, none⟩ = some (.slice A6 n6 c6) ∧ w'.cell? ⟨g, 7, none⟩ = some (.slice A7 n7 c7) ∧ w'.cell? ⟨g, 8, none⟩ = some (.slice A8 n8 c8) ∧ w'.cell? ⟨g, 9, none⟩ = some (.slice A9 n9 c9))
    (first | go_keep)
    (first | (go_at_call 33; refine (law12_Of_len A3 n3 c3 rows _ (Kd.C_drew (Kd.C_below HR.out HB.out)) HRL.out hlen HO.out).mono ?_; rintro e w2 ⟨A', c', rfl, hR, hb⟩; have B0' := (hb.block g (Array.getElem?_eq_some_iff.1 hB0.out).1).trans hB0.out; have B1' := (hb.block (g + 1) (Array.getElem?_eq_some_iff.1 hB1.out).1).trans hB1.out; obtain ⟨r0, r1, r2, r3, r4, r5, r6, r7, r8, r9⟩ := cells10 B0'; obtain ⟨t0, t1, t2, t3, t4, t5, t6, t7, t8, t9⟩ := cells10 B1'; have fz := free10 B1'; have HB1' := Aside0.mk B1'; have HBB := Aside0.mk hb; have HCC := Aside0.mk hR; clear B0' B1' hb hR))
  have HBw := Aside0.mk (below_step (below_drew1 HB.out) HBB.out)
  have HSZ := Aside0.mk (show g + 1 < W.heap.size from (Array.getElem?_eq_some_iff.1 hB1.out).1)
  clear r0 r1 r2 r3 r4 r5 r6 r7 r8 r9 t0 t1 t2 t3 t4 t5 t6 t7 t8 t9 q0 q1 q2 q3 q4 q5 q6 q7 q8 q9 fz
  have hres := put_all (vs := [.int .u16 p, .int .u8 c, .int .u8 i, .slice A' n3 c', .int .u16 s, .int .u32 m, .slice A6 n6 c6, .slice A7 n7 c7, .slice A8 n8 c8, .slice A9 n9 c9]) HB1'.out rfl
  have hbel := below_puts (o := 0) (vs := [.int .u16 p, .int .u8 c, .int .u8 i, .slice A' n3 c', .int .u16 s, .int .u32 m, .slice A6 n6 c6, .slice A7 n7 c7, .slice A8 n8 c8, .slice A9 n9 c9]) HBw.out (g := g + 1) (by have := HG.out; omega)
  have hrow := R_puts (o := 0) (vs := [.int .u16 p, .int .u8 c, .int .u8 i, .slice A' n3 c', .int .u16 s, .int .u32 m, .slice A6 n6 c6, .slice A7 n7 c7, .slice A8 n8 c8, .slice A9 n9 c9]) HCC.out (g := g + 1) (by have := HSZ.out; simpa using this)
  change Exit.then _ _ _ _ (w2.setCells (g + 1) 0 [.int .u16 p, .int .u8 c, .int .u8 i, .slice A' n3 c', .int .u16 s, .int .u32 m, .slice A6 n6 c6, .slice A7 n7 c7, .slice A8 n8 c8, .slice A9 n9 c9])
  generalize w2.setCells (g + 1) 0 [.int .u16 p, .int .u8 c, .int .u8 i, .slice A' n3 c', .int .u16 s, .int .u32 m, .slice A6 n6 c6, .slice A7 n7 c7, .slice A8 n8 c8, .slice A9 n9 c9] = W2 at hres hbel hrow ⊢
  obtain ⟨r0, r1, r2, r3, r4, r5, r6, r7, r8, r9⟩ := cells10 hres
  have HBW := Aside0.mk hbel
  have HRW := Aside0.mk hrow
  clear hres hbel hrow
  go_wp2
  refine bodyPost_ret (v := pkt p c i A' n3 c' s m A6 n6 c6 A7 n7 c7 A8 n8 c8 A9 n9 c9) (by simp [results, Try.results18, go_sem, r0, r1, r2, r3, r4, r5, r6, r7, r8, r9]) rfl ⟨A', c', rfl, (Kd.R_reads' HRW.out).2.1, ?_, HBW.out⟩
  have h1 := (Kd.R_reads' HRW.out).2.2
  rw [HRL.out] at h1
  exact of_raw (d := k80) h1 (each79 (HE.out.below HBW.out))

set_option maxHeartbeats 1000000 in
set_option maxRecDepth 100000 in
theorem law15_To_any (p c i : Int) (A3 : Option Addr) (n3 c3 : Nat) (s m : Int) (A6 : Option Addr) (n6 c6 : Nat) (A7 : Option Addr) (n7 c7 : Nat) (A8 : Option Addr) (n8 c8 : Nat) (A9 : Option Addr) (n9 c9 : Nat) (xs : List S80) (w : World)
    (hC : k80.C w A3 n3 xs) (hlen : n3 * 32 ≤ 140737488351232) :
    Calls Try.prog 21 #[pkt p c i A3 n3 c3 s m A6 n6 c6 A7 n7 c7 A8 n8 c8 A9 n9 c9] w fun e w' => ∃ A' c', e = .returned (pkt p c i A' n3 c' s m A6 n6 c6 A7 n7 c7 A8 n8 c8 A9 n9 c9) ∧ n3 ≤ c' ∧ k79.C w' A' n3 (xs.map of80) ∧ Below w.heap.size w w' := by
  obtain ⟨rows, hr, he⟩ := raw_of hC
  have hrl : rows.length = n3 := hr.1
  have HRL := Aside0.mk hrl
  have HR := Aside0.mk hr
  have HE := Aside0.mk he
  have HO := Aside0.mk (each_rows he fun _ _ => optRow80)
  clear hC hr he
  clear hrl
  go_enter Try.func21, Try.ntmps21
  go_wp2_with (fail)
  obtain ⟨W, hW⟩ : ∃ W, (w.alloc (.cells #[.int .u16 p, .int .u8 c, .int .u8 i, .slice A3 n3 c3, .int .u16 s, .int .u32 m, .slice A6 n6 c6, .slice A7 n7 c7, .slice A8 n8 c8, .slice A9 n9 c9] 34)).alloc (.cells #[.int .u16 0, .int .u8 0, .int .u8 0, .slice none 0 0, .int .u16 0, .int .u32 0, .slice none 0 0, .slice none 0 0, .slice none 0 0, .slice none 0 0] 45) = W := ⟨_, rfl⟩
  have B0 : W.heap[w.heap.size]? = some (.cells #[.int .u16 p, .int .u8 c, .int .u8 i, .slice A3 n3 c3, .int .u16 s, .int .u32 m, .slice A6 n6 c6, .slice A7 n7 c7, .slice A8 n8 c8, .slice A9 n9 c9] 34 (0, 0)) := hW ▸ new2_0 _ _ _
  have B1 : W.heap[w.heap.size + 1]? = some (.cells #[.int .u16 0, .int .u8 0, .int .u8 0, .slice none 0 0, .int .u16 0, .int .u32 0, .slice none 0 0, .slice none 0 0, .slice none 0 0, .slice none 0 0] 45 (0, 0)) := hW ▸ new2_1 _ _ _
  have HB : Aside0 (Below w.heap.size w W) := ⟨by rw [← hW]; exact below_alloc (below_alloc (Below.refl _ _) _) _⟩
  rw [hW]
  clear hW
  obtain ⟨g, hg⟩ : ∃ g, g = w.heap.size := ⟨_, rfl⟩
  have HG := Aside0.mk hg
  rw [← hg] at B0 B1 ⊢
  clear hg
  obtain ⟨q0, q1, q2, q3, q4, q5, q6, q7, q8, q9⟩ := cells10 B0
  have hB0 := Aside0.mk B0
  have hB1 := Aside0.mk B1
  clear B0 B1
  go_region_held3 (fun w' => w'.cell? ⟨g, 0, none⟩ = some (.int .u16 p) ∧ w'.cell? ⟨g, 1, none⟩ = some (.int .u8 c) ∧ w'.cell? ⟨g, 2, none⟩ = some (.int .u8 i) ∧ w'.cell? ⟨g, 3, none⟩ = some (.slice A3 n3 c3) ∧ w'.cell? ⟨g, 4, none⟩ = some (.int .u16 s) ∧ w'.cell? ⟨g, 5, none⟩ = some (.int .u32 m) ∧ w'.cell? ⟨g, 6, none⟩ = some (.slice A6 n6 c6) ∧ w'.cell? ⟨g, 7, none⟩ = some (.slice A7 n7 c7) ∧ w'.cell? ⟨g, 8, none⟩ = some (.slice A8 n8 c8) ∧ w'.cell? ⟨g, 9, none⟩ = some (.slice A9 n9 c9))
    (first | go_keep)
    (first | (go_at_call 35; refine (law12_To_len A3 n3 c3 rows _ (Kd.C_drew (Kd.C_below HR.out HB.out)) HRL.out hlen HO.out).mono ?_; rintro e w2 ⟨A', c', rfl, hR, hb⟩; have B0' := (hb.block g (Array.getElem?_eq_some_iff.1 hB0.out).1).trans hB0.out; have B1' := (hb.block (g + 1) (Array.getElem?_eq_some_iff.1 hB1.out).1).trans hB1.out; obtain ⟨r0, r1, r2, r3, r4, r5, r6, r7, r8, r9⟩ := cells10 B0'; obtain ⟨t0, t1, t2, t3, t4, t5, t6, t7, t8, t9⟩ := cells10 B1'; have fz := free10 B1'; have HB1' := Aside0.mk B1'; have HBB := Aside0.mk hb; have HCC := Aside0.mk hR; clear B0' B1' hb hR))
  have HBw := Aside0.mk (below_step (below_drew1 HB.out) HBB.out)
  have HSZ := Aside0.mk (show g + 1 < W.heap.size from (Array.getElem?_eq_some_iff.1 hB1.out).1)
  clear r0 r1 r2 r3 r4 r5 r6 r7 r8 r9 t0 t1 t2 t3 t4 t5 t6 t7 t8 t9 q0 q1 q2 q3 q4 q5 q6 q7 q8 q9 fz
  have hres := put_all (vs := [.int .u16 p, .int .u8 c, .int .u8 i, .slice A' n3 c', .int .u16 s, .int .u32 m, .slice A6 n6 c6, .slice A7 n7 c7, .slice A8 n8 c8, .slice A9 n9 c9]) HB1'.out rfl
  have hbel := below_puts (o := 0) (vs := [.int .u16 p, .int .u8 c, .int .u8 i, .slice A' n3 c', .int .u16 s, .int .u32 m, .slice A6 n6 c6, .slice A7 n7 c7, .slice A8 n8 c8, .slice A9 n9 c9]) HBw.out (g := g + 1) (by have := HG.out; omega)
  have hrow := R_puts (o := 0) (vs := [.int .u16 p, .int .u8 c, .int .u8 i, .slice A' n3 c', .int .u16 s, .int .u32 m, .slice A6 n6 c6, .slice A7 n7 c7, .slice A8 n8 c8, .slice A9 n9 c9]) HCC.out (g := g + 1) (by have := HSZ.out; simpa using this)
  change Exit.then _ _ _ _ (w2.setCells (g + 1) 0 [.int .u16 p, .int .u8 c, .int .u8 i, .slice A' n3 c', .int .u16 s, .int .u32 m, .slice A6 n6 c6, .slice A7 n7 c7, .slice A8 n8 c8, .slice A9 n9 c9])
  generalize w2.setCells (g + 1) 0 [.int .u16 p, .int .u8 c, .int .u8 i, .slice A' n3 c', .int .u16 s, .int .u32 m, .slice A6 n6 c6, .slice A7 n7 c7, .slice A8 n8 c8, .slice A9 n9 c9] = W2 at hres hbel hrow ⊢
  obtain ⟨r0, r1, r2, r3, r4, r5, r6, r7, r8, r9⟩ := cells10 hres
  have HBW := Aside0.mk hbel
  have HRW := Aside0.mk hrow
  clear hres hbel hrow
  go_wp2
  refine bodyPost_ret (v := pkt p c i A' n3 c' s m A6 n6 c6 A7 n7 c7 A8 n8 c8 A9 n9 c9) (by simp [results, Try.results21, go_sem, r0, r1, r2, r3, r4, r5, r6, r7, r8, r9]) rfl ⟨A', c', rfl, (Kd.R_reads' HRW.out).2.1, ?_, HBW.out⟩
  have h1 := (Kd.R_reads' HRW.out).2.2
  rw [HRL.out] at h1
  exact of_raw (d := k79) h1 (each80 (HE.out.below HBW.out))

end Go.Proofs.Ytelmlkcoeihhjaa.Lp
