/- Shapes of headers, a copy of octets: what frag.of, frag.Mod and bytes.Clone answer. Condition: the table of shapes lies as its text lays it. -/
import Derived.Test.YtgopklnfdlnojaaDoorGa1
import Derived.Test.YtgopklnfdlnojaaDoorMy
import Derived.Laws.ResultCell
import Derived.WalkSpells
import Derived.Lib.SliceRun
namespace Go.Proofs.YtgopklnfdlnojaaDoor.Gb
open Go.RowKit Go.Proofs.YtgopklnfdlnojaaDoor.Ga Go.Proofs.YtgopklnfdlnojaaDoor.My Go.Proofs.YtgopklnfdlnojaaDoorW.PrintWords Go.Proofs.YtgopklnfdlnojaaDoorW.PrintLast Go.Proofs.YtgopklnfdlnojaaDoorW.PrintMore
set_option linter.unusedVariables false
set_option linter.unusedSimpArgs false

/-- The table of shapes lies as its text lays it. -/
structure Shapes (W : World) : Prop where
  c0 : W.cell? ⟨0, 0, none⟩ = some (.int .i64 4)
  c1 : W.cell? ⟨0, 1, none⟩ = some (.int .i64 16777216)
  c2 : W.cell? ⟨0, 2, none⟩ = some (.int .u8 0)
  c3 : W.cell? ⟨0, 3, none⟩ = some (.int .i64 2)
  c4 : W.cell? ⟨0, 4, none⟩ = some (.int .i64 4096)
  c5 : W.cell? ⟨0, 5, none⟩ = some (.int .u8 15)
theorem Shapes.below {W W' : World} (h : Shapes W) (hb : Below W.heap.size W W') : Shapes W' :=
  ⟨pw_cell_below hb h.c0, pw_cell_below hb h.c1, pw_cell_below hb h.c2, pw_cell_below hb h.c3, pw_cell_below hb h.c4, pw_cell_below hb h.c5⟩
theorem Shapes.alloc {W : World} (h : Shapes W) (o : Obj) : Shapes (W.alloc o) := h.below (below_alloc (Below.refl _ _) o)

def octets (short : Bool) : Int := if short then 2 else 4
def numbers (short : Bool) : Int := if short then 4096 else 16777216
def mask (short : Bool) : Int := if short then 15 else 0
abbrev shapeV (short : Bool) : Value := .agg #[.int .i64 (octets short), .int .i64 (numbers short), .int .u8 (mask short)]

set_option maxHeartbeats 1000000 in
set_option maxRecDepth 100000 in
theorem of_any (short : Bool) (w : World) (hS : Shapes w) : Calls Tryd.prog 38 #[.bool short] w fun e w' => e = .returned (shapeV short) ∧ Below w.heap.size w w' := by
  have h0 := hS.c0
  have h1 := hS.c1
  have h2 := hS.c2
  have h3 := hS.c3
  have h4 := hS.c4
  have h5 := hS.c5
  have hz := World.block_lt_of_cell? w _ h0
  have hz1 : w.heap.size ≠ 0 := by simp only at hz; omega
  have hz2 : ¬ 0 = w.heap.size := fun h => hz1 h.symm
  clear hS
  cases short with
  | true =>
    go_enter Tryd.func38, Tryd.ntmps38
    go_wp2
    exact bodyPost_ret (v := shapeV true) (by simp [results, Tryd.results38, go_sem, shapeV, octets, numbers, mask]) rfl ⟨rfl, below_alloc (Below.refl _ _) _⟩
  | false =>
    go_enter Tryd.func38, Tryd.ntmps38
    go_wp2
    exact bodyPost_ret (v := shapeV false) (by simp [results, Tryd.results38, go_sem, shapeV, octets, numbers, mask]) rfl ⟨rfl, below_alloc (Below.refl _ _) _⟩

set_option maxHeartbeats 1000000 in
set_option maxRecDepth 100000 in
theorem mod_any (short : Bool) (w : World) (hS : Shapes w) : Calls Tryd.prog 26 #[.bool short] w fun e w' => e = .returned (.int .i64 (numbers short)) ∧ Below w.heap.size w w' := by
  have hu91 := Tryd.underlying91
  have HS := Aside0.mk hS
  clear hS
  go_enter Tryd.func26, Tryd.ntmps26
  go_wp2_with (fail)
  refine (of_any short _ HS.out).mono ?_
  rintro e w1 ⟨rfl, hb⟩
  cases short with
  | true =>
    have hf : ∀ W : World, (Instr.field 91 (shapeV true) 1).run Tryd.prog W = .ok (.int .i64 4096) W := fun _ => by kernel_rfl
    go_wp2
    go_ret
    exact ⟨rfl, hb⟩
  | false =>
    have hf : ∀ W : World, (Instr.field 91 (shapeV false) 1).run Tryd.prog W = .ok (.int .i64 16777216) W := fun _ => by kernel_rfl
    go_wp2
    go_ret
    exact ⟨rfl, hb⟩

/-- A copy of octets: a list that was nil is nil, every other one is new memory. -/
theorem clone_any (A : Option Addr) (n c : Nat) (xs : List Int) (w : World) (h : (Kd.int .u8).C w A n xs) (hc : n ≤ c) (hA : A = none → n = 0) (hn : n ≤ 140737488355328) :
    Calls Tryd.prog 41 #[.slice A n c] w fun e w' => ∃ A' c', e = .returned (.slice A' n c') ∧ n ≤ c' ∧ (Kd.int .u8).R 5 w' w.heap.size (fun _ => True) (.slice A' n c') xs ∧ Below w.heap.size w w' := by
  cases A with
  | none =>
    obtain rfl := hA rfl
    obtain rfl : xs = [] := List.length_eq_zero_iff.1 h.1
    have he := fun W : World => Go.Lib.run_eql_slice_nil (P := Tryd.prog) W 22 5 none 0 c 0 0 Tryd.underlying22
    clear h hA hn
    go_enter Tryd.func41, Tryd.ntmps41
    go_wp2
    go_ret
    exact ⟨none, 0, rfl, Nat.le_refl _, Kd.R_nil _ _ _ _ _, Below.refl _ _⟩
  | some ad =>
    have he := fun W : World => Go.Lib.run_eql_slice_nil (P := Tryd.prog) W 22 5 (some ad) n c 0 0 Tryd.underlying22
    have H := Aside0.mk h
    have HN := Aside0.mk hn
    clear h hA hn
    go_enter Tryd.func41, Tryd.ntmps41
    go_wp2_with (first
      | ((with_reducible refine gate_dst (N := 5) rfl ?_); refine Kd.R_lit (Kd.int .u8) (w0 := w) w.heap.size 5 ?hg (N := 5) ?hd (xs := ([] : List Int)) (inner := []) (ok := fun _ => True) (okp := fun _ => True) ?hr ?hp (fun _ hk => hk) trivial (Below.refl _ _) (Nat.le_refl _) (by simp) ?_; (case hd => rfl); (case hg => rfl); (case hr => first | (go_simp; done) | (go_simp; rfl)); (case hp => exact (Reps.none _ _)); intro v4 w4 ho4 hb4 hg4 hnew4; have HO4 := Aside0.mk ho4; have HB4 := Aside0.mk hb4; clear ho4 hb4 hg4 hnew4)
      | ((with_reducible refine gate_builtin (b := .append) (xs := #[.tmp 5, .tmp 6]) rfl ?_); at_builtin; refine Kd.R_append_rows (Kd.int .u8) (w0 := w) w.heap.size rfl (.tmp 5) (.tmp 6) 22 5 (.int .u8 0) 1 rfl Tryd.underlying22 info5 rfl (by decide) (by omega) v4 [] xs _ _ _ (fun _ => True) (fun _ => False) rfl rfl ?aO ?aR (fun _ _ h => h) (fun _ h => h.elim) ?aF ?aB ?aS ?aL ?_; (case aR => exact Kd.C_below H.out HB4.out); (case aB => exact HB4.out); (case aF => exact fun _ _ => trivial); (case aO => exact HO4.out); (case aS => exact HB4.out.size); (case aL => have := HN.out; simp only [List.length_nil]; omega); intro v5 w5 ho5 hb5 hg5 hat5; have HO5 := Aside0.mk ho5; have HB5 := Aside0.mk hb5; clear ho5 hb5 hg5 hat5))
    go_ret
    obtain ⟨A', c', rfl, hc', hC⟩ := Kd.R_reads HO5.out
    have hl : xs.length = n := H.out.1
    have hR := HO5.out
    rw [List.nil_append, hl] at hR hc'
    exact ⟨A', c', by simp [hl], hc', hR, HB5.out⟩

end Go.Proofs.YtgopklnfdlnojaaDoor.Gb
