/- A piece's octets: what frag.Put answers for any piece. Conditions: the table of shapes lies as its text lays it; a piece's octets read as a list, at most 1000. -/
import Derived.Test.YtgopklnfdlnojaaDoorGb
import Derived.Laws.MakeOwn
namespace Go.Proofs.YtgopklnfdlnojaaDoor.Gp
open Go.RowKit Go.Proofs.YtgopklnfdlnojaaDoor.Ga Go.Proofs.YtgopklnfdlnojaaDoor.My Go.Proofs.YtgopklnfdlnojaaDoor.Gb Go.Proofs.YtgopklnfdlnojaaDoorW.PrintWords Go.Proofs.YtgopklnfdlnojaaDoorW.PrintLast Go.Proofs.YtgopklnfdlnojaaDoorW.PrintMore
set_option linter.unusedVariables false
set_option linter.unusedSimpArgs false

theorem blk_keep {W W' : World} {g : Nat} {o : Obj} (h : W.heap[g]? = some o) (hb : Below W.heap.size W W') : W'.heap[g]? = some o := (hb.block g (Array.getElem?_eq_some_iff.1 h).1).trans h
theorem new1 (w : World) (o : Obj) : (w.alloc o).heap[w.heap.size]? = some o := by
  show (w.heap.push o)[w.heap.size]? = some o
  rw [Array.getElem?_push, if_pos rfl]
theorem cells3 {W : World} {g t : Nat} {v0 v1 v2 : Value} (h : W.heap[g]? = some (.cells #[v0, v1, v2] t (0, 0))) :
    W.cell? ⟨g, 0, none⟩ = some v0 ∧ W.cell? ⟨g, 1, none⟩ = some v1 ∧ W.cell? ⟨g, 2, none⟩ = some v2 := by
  refine ⟨?_, ?_, ?_⟩ <;> simp [World.cell?, h]
theorem cells4 {W : World} {g t : Nat} {v0 v1 v2 v3 : Value} (h : W.heap[g]? = some (.cells #[v0, v1, v2, v3] t (0, 0))) :
    W.cell? ⟨g, 0, none⟩ = some v0 ∧ W.cell? ⟨g, 1, none⟩ = some v1 ∧ W.cell? ⟨g, 2, none⟩ = some v2 ∧ W.cell? ⟨g, 3, none⟩ = some v3 := by
  refine ⟨?_, ?_, ?_, ?_⟩ <;> simp [World.cell?, h]

abbrev pc (b e : Bool) (num : Int) (A : Option Addr) (n c : Nat) : Value := .agg #[.bool b, .bool e, .int .i64 num, .slice A n c]

theorem has_any (short : Bool) (num : Int) (w : World) : Calls Tryd.prog 39 #[shapeV short, .int .i64 num] w fun e w' => e = .returned (.bool (decide (0 ≤ num ∧ num < numbers short))) ∧ Below w.heap.size w w' := by
  refine frag_shape_has.calls _ _ _ _ _ w ?_
  unfold frag_shape_has.f
  by_cases h : 0 ≤ num
  · rw [if_pos h, decide_eq_decide.2 (show num < numbers short ↔ 0 ≤ num ∧ num < numbers short from by omega)]
  · rw [if_neg (by omega), decide_eq_false (fun hh => h hh.1)]

/-- The row that make laid. -/
theorem made_row {W : World} {m c : Nat} (hm : m ≤ c) (hc : c ≤ maxLen) : (Kd.int .u8).R 5 (W.alloc (.cells (madeCells #[.int .u8 0] c) 5)) W.heap.size (fun _ => True) (.slice (some ⟨W.heap.size, 0, none⟩) m c) (List.replicate m 0) := by
  refine Kd.R_of_own (enc := Value.int .u8) (h1 := fun _ => rfl) ⟨by simp [encs], .inr ⟨W.heap.size, c, madeCells #[.int .u8 0] c, by simp, Nat.le_refl _, new1 W _, by simpa using hm, hc, by rw [size_madeCells, Nat.mul_one], ?_⟩⟩ (fun _ _ => trivial)
  have e : (madeCells #[.int .u8 0] c).toList = List.replicate c (.int .u8 0) := by
    apply List.ext_getElem
    · simp [madeCells]
    · intro i h1 h2
      simp [madeCells, Nat.mod_one]
  rw [e, List.take_replicate]
  simp [encs, Nat.min_eq_left hm]


theorem of2 (w : World) (hS : Shapes w) : Calls Tryd.prog 38 #[.bool true] w fun e w' => e = .returned (.agg #[.int .i64 2, .int .i64 4096, .int .u8 15]) ∧ Below w.heap.size w w' := of_any true w hS
theorem of4 (w : World) (hS : Shapes w) : Calls Tryd.prog 38 #[.bool false] w fun e w' => e = .returned (.agg #[.int .i64 4, .int .i64 16777216, .int .u8 0]) ∧ Below w.heap.size w w' := of_any false w hS
theorem has2 (num : Int) (w : World) : Calls Tryd.prog 39 #[.agg #[.int .i64 2, .int .i64 4096, .int .u8 15], .int .i64 num] w fun e w' => e = .returned (.bool (decide (0 ≤ num ∧ num < 4096))) ∧ Below w.heap.size w w' := has_any true num w
theorem has4 (num : Int) (w : World) : Calls Tryd.prog 39 #[.agg #[.int .i64 4, .int .i64 16777216, .int .u8 0], .int .i64 num] w fun e w' => e = .returned (.bool (decide (0 ≤ num ∧ num < 16777216))) ∧ Below w.heap.size w w' := has_any false num w
theorem lor16 : ∀ x < 16, (x ||| 128 = x + 128) ∧ (x ||| 64 = x + 64) ∧ ((x + 128) ||| 64 = x + 192) := by decide +kernel
theorem or_u8 (a b : Nat) (ha : a < 256) (hb : b < 256) : Go.bits .or .u8 (a : Int) (b : Int) = ((a ||| b : Nat) : Int) := (Go.bits_nat .u8 8 (by decide) wraps_u8 a b ha hb).2
theorem or128 (x : Int) (h0 : 0 ≤ x) (h1 : x < 16) : Go.bits .or .u8 x 128 = x + 128 := by
  obtain ⟨n, rfl⟩ := Int.eq_ofNat_of_zero_le h0
  have := or_u8 n 128 (by omega) (by decide)
  rw [(lor16 n (by omega)).1] at this
  exact this
theorem or64 (x : Int) (h0 : 0 ≤ x) (h1 : x < 16) : Go.bits .or .u8 x 64 = x + 64 := by
  obtain ⟨n, rfl⟩ := Int.eq_ofNat_of_zero_le h0
  have := or_u8 n 64 (by omega) (by decide)
  rw [(lor16 n (by omega)).2.1] at this
  exact this
theorem or192 (x : Int) (h0 : 0 ≤ x) (h1 : x < 16) : Go.bits .or .u8 (x + 128) 64 = x + 192 := by
  obtain ⟨n, rfl⟩ := Int.eq_ofNat_of_zero_le h0
  have := or_u8 (n + 128) 64 (by omega) (by decide)
  rw [(lor16 n (by omega)).2.2] at this
  exact this
def sh (num : Int) : Nat → Int
  | 0 => num
  | 1 => num / 256
  | 2 => num / 65536
  | 3 => num / 16777216
  | _ => num / 4294967296
def top (b e : Bool) : Int := (if b then 128 else 0) + (if e then 64 else 0)
def head2 (b e : Bool) (num : Int) : List Int := [top b e + num / 256, num % 256]
def head4 (b e : Bool) (num : Int) : List Int := [top b e, num / 65536, num / 256 % 256, num % 256]

/-- A header's octets, as many as are written after k rounds. -/
def st2 (num : Int) : Nat → List Int
  | 0 => [0, 0]
  | 1 => [0, sh num 0 % 256]
  | _ => [sh num 1 % 256, sh num 0 % 256]

set_option maxHeartbeats 2000000 in
set_option maxRecDepth 100000 in
theorem put2 (b e : Bool) (num : Int) (A : Option Addr) (n c : Nat) (xs : List Int) (w : World) (hS : Shapes w) (h0 : 0 ≤ num) (h1 : num < 4096) (hx : (Kd.int .u8).C w A n xs) (hc : n ≤ c) (hn : n ≤ 100000) :
    Calls Tryd.prog 13 #[.bool true, pc b e num A n c] w fun e' w' => ∃ A' c', e' = .returned (.tuple #[.slice A' (2 + n) c', .int .i64 0]) ∧ 2 + n ≤ c' ∧ (Kd.int .u8).C w' A' (2 + n) (head2 b e num ++ xs) ∧ Below w.heap.size w w' := by
  have HS := Aside0.mk hS
  have HX := Aside0.mk hx
  have HC := Aside0.mk hc
  have HN := Aside0.mk hn
  have HM := Aside0.mk (show (n : Int) ≤ 100000 from by omega)
  clear hS hx hc hn
  have hinf := info_parts info5
  obtain ⟨i0, hi, hz, hz1, hz2⟩ := hinf
  go_enter Tryd.func13, Tryd.ntmps13
  go_wp2_with (fail)
  refine (of2 _ (HS.out.alloc _)).mono ?_
  rintro e1 w1 ⟨rfl, hb⟩
  have HP := Aside0.mk (blk_keep (new1 w (.cells #[.bool b, .bool e, .int .i64 num, .slice A n c] 29)) hb)
  have X := Aside0.mk (below_step (below_alloc (Below.refl _ w) (.cells #[.bool b, .bool e, .int .i64 num, .slice A n c] 29)) hb)
  clear hb
  obtain ⟨gp, hgp⟩ : ∃ gp, w.heap.size = gp := ⟨_, rfl⟩
  rw [hgp] at HP ⊢
  clear hgp
  go_upto_region 2 with (fail)
  have HQ := Aside0.mk (new1 w1 (.cells #[.int .i64 2, .int .i64 4096, .int .u8 15] 91))
  have hb := below_alloc (Below.refl _ w1) (.cells #[.int .i64 2, .int .i64 4096, .int .u8 15] 91)
  replace HP := Aside0.mk (blk_keep HP.out hb)
  replace X := Aside0.mk (below_step X.out hb)
  clear hb
  obtain ⟨gq, hgq⟩ : ∃ gq, w1.heap.size = gq := ⟨_, rfl⟩
  rw [hgq] at HQ ⊢
  clear hgq
  generalize w1.alloc (.cells #[.int .i64 2, .int .i64 4096, .int .u8 15] 91) = w2 at HP HQ X ⊢
  obtain ⟨p0, p1, p2, p3⟩ := cells4 HP.out
  obtain ⟨q0, q1, q2⟩ := cells3 HQ.out
  go_wp2_with (fail)
  refine (has2 num _).mono ?_
  rintro e1 w3 ⟨rfl, hb⟩
  have hin : decide (0 ≤ num ∧ num < 4096) = true := decide_eq_true ⟨h0, h1⟩
  rw [hin]
  clear hin p0 p1 p2 p3 q0 q1 q2
  replace HP := Aside0.mk (blk_keep HP.out hb)
  replace HQ := Aside0.mk (blk_keep HQ.out hb)
  replace X := Aside0.mk (below_step X.out hb)
  clear hb
  obtain ⟨p0, p1, p2, p3⟩ := cells4 HP.out
  obtain ⟨q0, q1, q2⟩ := cells3 HQ.out
  have hmk := fun W : World => run_make (P := Tryd.prog) W 22 5 i0 (.int .u8 0) Tryd.underlying22 hi hz .i64 .i64 2 (2 + n) (by omega) (by omega) (by rw [hz2]; have := HM.out; omega) (by have := HM.out; omega)
  rw [hz1] at hmk
  have HP3 := HP
  have X3 := X
  have hn0 : 0 ≤ (n : Int) := by omega
  have hn1 : (n : Int) ≤ 100000 := HM.out
  clear hi hz hz1 hz2
  go_upto_region 5 with (fail)
  have HR := Aside0.mk (made_row (W := w3) (m := 2) (c := 2 + n) (by omega) (by have := HN.out; unfold maxLen; omega))
  have hb := below_alloc (Below.refl _ w3) (.cells (madeCells #[.int .u8 0] (2 + n)) 5)
  replace HP := Aside0.mk (blk_keep HP.out hb)
  replace HQ := Aside0.mk (blk_keep HQ.out hb)
  replace X := Aside0.mk (below_step X.out hb)
  have GP := Aside0.mk (show gp < w3.heap.size ∧ w.heap.size ≤ w3.heap.size from ⟨by have := (Array.getElem?_eq_some_iff.1 HP3.out).1; exact this, X3.out.size⟩)
  clear hb HP3 X3 hmk
  clear p0 p1 p2 p3 q0 q1 q2
  obtain ⟨gr, hgr⟩ : ∃ gr, w3.heap.size = gr := ⟨_, rfl⟩
  rw [hgr] at HR GP ⊢
  clear hgr
  generalize w3.alloc (.cells (madeCells #[.int .u8 0] (2 + n)) 5) = w4 at HP HQ X HR ⊢
  obtain ⟨p0, p1, p2, p3⟩ := cells4 HP.out
  obtain ⟨q0, q1, q2⟩ := cells3 HQ.out
  go_wp2_with (fail)
  clear p0 p1 p2 p3 q0 q1 q2
  go_loopw [8, 9] (fun v8 v9 wr => ∃ k : Nat, k ≤ 2 ∧ v8 = .int .i64 (sh num k) ∧ v9 = .int .i64 (2 - 1 - (k : Int)) ∧ Aside0 ((Kd.int .u8).R 5 wr gr (fun _ => True) (.slice (some ⟨gr, 0, none⟩) 2 (2 + n)) (st2 num k)) ∧ Aside0 (Below gr w4 wr)) (fun _ v9 _ => (intOf v9 + 1).toNat)
  case atStart => exact ⟨0, Nat.zero_le _, rfl, rfl, HR, ⟨Below.refl _ _⟩⟩
  case round =>
    obtain ⟨k, hk, rfl, rfl, HRk, HBk⟩ := hrel
    have hcase : k = 0 ∨ k = 1 ∨ k = 2 := by omega
    rcases hcase with rfl | rfl | rfl
    · have e9 : ((2 : Int) - 1 - ((0 : Nat) : Int)) = 1 := by decide
      rw [e9]
      have HS1 := Aside0.mk (show st2 num (0 + 1) = (st2 num 0).set 1 (sh num 0 % 256) from rfl)
      have hm0 : 0 ≤ sh num 0 := by simp only [sh]; omega
      have hm1 : sh num 0 < 4096 := by simp only [sh]; omega
      have HM8 := Aside0.mk (show sh num 0 / 256 = sh num (0 + 1) from by simp only [sh] <;> omega)
      generalize sh num 0 = m at hm0 hm1 HM8 HS1 ⊢
      obtain ⟨hcell, hfz⟩ := Kd.R_celln (0 : Int) HRk.out 1 (by decide) (by decide)
      rw [show ((1 : Int)).toNat = 1 from rfl] at hcell hfz
      clear e9
      go_wp2
      go_roundw
      case measure => simp [intOf]
      case rel => exact ⟨0 + 1, by omega, by rw [HM8.out], rfl, ⟨by rw [HS1.out]; exact Kd.R_putn HRk.out 1 (m % 256)⟩, ⟨Below.setCell HBk.out (Nat.le_refl _) _⟩⟩
    · have e9 : ((2 : Int) - 1 - ((1 : Nat) : Int)) = 0 := by decide
      rw [e9]
      have HS1 := Aside0.mk (show st2 num (1 + 1) = (st2 num 1).set 0 (sh num 1 % 256) from rfl)
      have hm0 : 0 ≤ sh num 1 := by simp only [sh]; omega
      have hm1 : sh num 1 < 4096 := by simp only [sh]; omega
      have HM8 := Aside0.mk (show sh num 1 / 256 = sh num (1 + 1) from by simp only [sh] <;> omega)
      generalize sh num 1 = m at hm0 hm1 HM8 HS1 ⊢
      obtain ⟨hcell, hfz⟩ := Kd.R_celln (0 : Int) HRk.out 0 (by decide) (by decide)
      rw [show ((0 : Int)).toNat = 0 from rfl] at hcell hfz
      clear e9
      go_wp2
      go_roundw
      case measure => simp [intOf]
      case rel => exact ⟨1 + 1, by omega, by rw [HM8.out], rfl, ⟨by rw [HS1.out]; exact Kd.R_putn HRk.out 0 (m % 256)⟩, ⟨Below.setCell HBk.out (Nat.le_refl _) _⟩⟩
    · have e9 : ((2 : Int) - 1 - ((2 : Nat) : Int)) = -1 := by decide
      rw [e9]
      clear e9
      have HPr := Aside0.mk ((HBk.out.block gp GP.out.1).trans HP.out)
      have XR := Aside0.mk (show Below w.heap.size w wr from X.out.trans (HBk.out.mono GP.out.2))
      have HXr := Aside0.mk (Kd.C_below HX.out XR.out)
      obtain ⟨p0, p1, p2, p3⟩ := cells4 HPr.out
      obtain ⟨c0, f0⟩ := Kd.R_celln (0 : Int) HRk.out 0 (by decide) (by decide)
      rw [show ((0 : Int)).toNat = 0 from rfl] at c0 f0
      have hx0 : rdOf (0 : Int) (st2 num 2) 0 = sh num 1 % 256 := rfl
      rw [hx0] at c0
      clear hx0
      have hst : st2 num 2 = [sh num 1 % 256, sh num 0 % 256] := rfl
      rw [hst] at HRk
      clear hst
      have hb0 : 0 ≤ sh num 1 % 256 ∧ sh num 1 % 256 < 16 := by simp only [sh]; omega
      have HH := Aside0.mk (show ∀ b e, head2 b e num = [top b e + sh num 1 % 256, sh num 0 % 256] from fun b e => by simp only [head2, sh, List.cons.injEq, and_true]; omega)
      have o1 := Aside0.mk (or128 _ hb0.1 hb0.2)
      have o2 := Aside0.mk (or64 _ hb0.1 hb0.2)
      have o3 := Aside0.mk (or192 _ hb0.1 hb0.2)
      clear hb0
      generalize sh num 1 % 256 = x0 at *
      generalize sh num 0 % 256 = x1 at *
      have GR := Aside0.mk GP.out.2
      cases b with
      | false =>
        cases e with
        | false =>
          have HF := Aside0.mk HRk.out
          have XF := Aside0.mk XR.out
          have HXF := Aside0.mk HXr.out
          go_upto_region 15 with (fail)
          clear c0 f0 p0 p1 p2
          go_wp2_with ((with_reducible refine gate_builtin (b := .append) (xs := #[.tmp 56, .tmp 58]) rfl ?_); at_builtin; refine Kd.R_append_rows (Kd.int .u8) (w0 := w) w.heap.size rfl (.tmp 56) (.tmp 58) 22 5 (.int .u8 0) 1 rfl Tryd.underlying22 info5 rfl (by decide) (by omega) (.slice (some ⟨gr, 0, none⟩) 2 (2 + n)) ([x0, x1]) xs A n c (fun _ => True) (fun _ => False) rfl rfl ?aO ?aR (fun _ _ h => h) (fun _ h => h.elim) ?aF ?aB ?aS ?aL ?_; (case aO => exact Kd.R_lower HF.out GR.out); (case aR => exact Kd.C_below HX.out XF.out); (case aB => exact XF.out); (case aF => exact fun _ _ => trivial); (case aS => exact XF.out.size); (case aL => have := HN.out; simp only [List.length_cons, List.length_nil, List.length_set]; omega); intro v5 w5 ho5 hb5 hg5 hat5; have HO5 := Aside0.mk ho5; have HB5 := Aside0.mk hb5; clear ho5 hb5 hg5 hat5)
          obtain ⟨A', c', rfl, hc', hC⟩ := Kd.R_reads HO5.out
          go_ret2
          have hxl : xs.length = n := HX.out.1
          have hh : [x0, x1] = head2 false false num := by rw [HH.out]; simp [top, o1.out, o2.out, o3.out]; try omega
          rw [hh] at hc' hC
          have hl2 : (head2 false false num ++ xs).length = 2 + n := by rw [List.length_append, hxl]; rfl
          rw [hl2] at hc' hC
          exact ⟨A', c', by simp [hxl]; try omega, hc', hC, HB5.out⟩
        | true =>
          have HF := Aside0.mk (Kd.R_putn HRk.out 0 (Go.bits .or .u8 x0 64))
          have XF := Aside0.mk (XR.out.setCell (p := ⟨gr, (0 : Int).toNat, none⟩) GR.out (.int .u8 (Go.bits .or .u8 x0 64)))
          go_upto_region 15 with (fail)
          clear c0 f0 p0 p1 p2
          go_wp2_with ((with_reducible refine gate_builtin (b := .append) (xs := #[.tmp 56, .tmp 58]) rfl ?_); at_builtin; refine Kd.R_append_rows (Kd.int .u8) (w0 := w) w.heap.size rfl (.tmp 56) (.tmp 58) 22 5 (.int .u8 0) 1 rfl Tryd.underlying22 info5 rfl (by decide) (by omega) (.slice (some ⟨gr, 0, none⟩) 2 (2 + n)) ([x0, x1].set (0 : Int).toNat (Go.bits .or .u8 x0 64)) xs A n c (fun _ => True) (fun _ => False) rfl rfl ?aO ?aR (fun _ _ h => h) (fun _ h => h.elim) ?aF ?aB ?aS ?aL ?_; (case aO => exact Kd.R_lower HF.out GR.out); (case aR => exact Kd.C_below HX.out XF.out); (case aB => exact XF.out); (case aF => exact fun _ _ => trivial); (case aS => exact XF.out.size); (case aL => have := HN.out; simp only [List.length_cons, List.length_nil, List.length_set]; omega); intro v5 w5 ho5 hb5 hg5 hat5; have HO5 := Aside0.mk ho5; have HB5 := Aside0.mk hb5; clear ho5 hb5 hg5 hat5)
          obtain ⟨A', c', rfl, hc', hC⟩ := Kd.R_reads HO5.out
          go_ret2
          have hxl : xs.length = n := HX.out.1
          have hh : [x0, x1].set (0 : Int).toNat (Go.bits .or .u8 x0 64) = head2 false true num := by rw [HH.out]; simp [top, o1.out, o2.out, o3.out]; try omega
          rw [hh] at hc' hC
          have hl2 : (head2 false true num ++ xs).length = 2 + n := by rw [List.length_append, hxl]; rfl
          rw [hl2] at hc' hC
          exact ⟨A', c', by simp [hxl]; try omega, hc', hC, HB5.out⟩
      | true =>
        cases e with
        | false =>
          have HF := Aside0.mk (Kd.R_putn HRk.out 0 (Go.bits .or .u8 x0 128))
          have XF := Aside0.mk (XR.out.setCell (p := ⟨gr, (0 : Int).toNat, none⟩) GR.out (.int .u8 (Go.bits .or .u8 x0 128)))
          go_upto_region 15 with (fail)
          clear c0 f0 p0 p1 p2
          go_wp2_with ((with_reducible refine gate_builtin (b := .append) (xs := #[.tmp 56, .tmp 58]) rfl ?_); at_builtin; refine Kd.R_append_rows (Kd.int .u8) (w0 := w) w.heap.size rfl (.tmp 56) (.tmp 58) 22 5 (.int .u8 0) 1 rfl Tryd.underlying22 info5 rfl (by decide) (by omega) (.slice (some ⟨gr, 0, none⟩) 2 (2 + n)) ([x0, x1].set (0 : Int).toNat (Go.bits .or .u8 x0 128)) xs A n c (fun _ => True) (fun _ => False) rfl rfl ?aO ?aR (fun _ _ h => h) (fun _ h => h.elim) ?aF ?aB ?aS ?aL ?_; (case aO => exact Kd.R_lower HF.out GR.out); (case aR => exact Kd.C_below HX.out XF.out); (case aB => exact XF.out); (case aF => exact fun _ _ => trivial); (case aS => exact XF.out.size); (case aL => have := HN.out; simp only [List.length_cons, List.length_nil, List.length_set]; omega); intro v5 w5 ho5 hb5 hg5 hat5; have HO5 := Aside0.mk ho5; have HB5 := Aside0.mk hb5; clear ho5 hb5 hg5 hat5)
          obtain ⟨A', c', rfl, hc', hC⟩ := Kd.R_reads HO5.out
          go_ret2
          have hxl : xs.length = n := HX.out.1
          have hh : [x0, x1].set (0 : Int).toNat (Go.bits .or .u8 x0 128) = head2 true false num := by rw [HH.out]; simp [top, o1.out, o2.out, o3.out]; try omega
          rw [hh] at hc' hC
          have hl2 : (head2 true false num ++ xs).length = 2 + n := by rw [List.length_append, hxl]; rfl
          rw [hl2] at hc' hC
          exact ⟨A', c', by simp [hxl]; try omega, hc', hC, HB5.out⟩
        | true =>
          have HF := Aside0.mk (Kd.R_putn (Kd.R_putn HRk.out 0 (Go.bits .or .u8 x0 128)) 0 (Go.bits .or .u8 (Go.bits .or .u8 x0 128) 64))
          have XF := Aside0.mk ((XR.out.setCell (p := ⟨gr, (0 : Int).toNat, none⟩) GR.out (.int .u8 (Go.bits .or .u8 x0 128))).setCell (p := ⟨gr, (0 : Int).toNat, none⟩) GR.out (.int .u8 (Go.bits .or .u8 (Go.bits .or .u8 x0 128) 64)))
          go_upto_region 15 with (fail)
          clear c0 f0 p0 p1 p2
          go_wp2_with ((with_reducible refine gate_builtin (b := .append) (xs := #[.tmp 56, .tmp 58]) rfl ?_); at_builtin; refine Kd.R_append_rows (Kd.int .u8) (w0 := w) w.heap.size rfl (.tmp 56) (.tmp 58) 22 5 (.int .u8 0) 1 rfl Tryd.underlying22 info5 rfl (by decide) (by omega) (.slice (some ⟨gr, 0, none⟩) 2 (2 + n)) (([x0, x1].set (0 : Int).toNat (Go.bits .or .u8 x0 128)).set (0 : Int).toNat (Go.bits .or .u8 (Go.bits .or .u8 x0 128) 64)) xs A n c (fun _ => True) (fun _ => False) rfl rfl ?aO ?aR (fun _ _ h => h) (fun _ h => h.elim) ?aF ?aB ?aS ?aL ?_; (case aO => exact Kd.R_lower HF.out GR.out); (case aR => exact Kd.C_below HX.out XF.out); (case aB => exact XF.out); (case aF => exact fun _ _ => trivial); (case aS => exact XF.out.size); (case aL => have := HN.out; simp only [List.length_cons, List.length_nil, List.length_set]; omega); intro v5 w5 ho5 hb5 hg5 hat5; have HO5 := Aside0.mk ho5; have HB5 := Aside0.mk hb5; clear ho5 hb5 hg5 hat5)
          obtain ⟨A', c', rfl, hc', hC⟩ := Kd.R_reads HO5.out
          go_ret2
          have hxl : xs.length = n := HX.out.1
          have hh : ([x0, x1].set (0 : Int).toNat (Go.bits .or .u8 x0 128)).set (0 : Int).toNat (Go.bits .or .u8 (Go.bits .or .u8 x0 128) 64) = head2 true true num := by rw [HH.out]; simp [top, o1.out, o2.out, o3.out]; try omega
          rw [hh] at hc' hC
          have hl2 : (head2 true true num ++ xs).length = 2 + n := by rw [List.length_append, hxl]; rfl
          rw [hl2] at hc' hC
          exact ⟨A', c', by simp [hxl]; try omega, hc', hC, HB5.out⟩

/-- A header's octets, as many as are written after k rounds. -/
def st4 (num : Int) : Nat → List Int
  | 0 => [0, 0, 0, 0]
  | 1 => [0, 0, 0, sh num 0 % 256]
  | 2 => [0, 0, sh num 1 % 256, sh num 0 % 256]
  | 3 => [0, sh num 2 % 256, sh num 1 % 256, sh num 0 % 256]
  | _ => [sh num 3 % 256, sh num 2 % 256, sh num 1 % 256, sh num 0 % 256]

set_option maxHeartbeats 2000000 in
set_option maxRecDepth 100000 in
theorem put4 (b e : Bool) (num : Int) (A : Option Addr) (n c : Nat) (xs : List Int) (w : World) (hS : Shapes w) (h0 : 0 ≤ num) (h1 : num < 16777216) (hx : (Kd.int .u8).C w A n xs) (hc : n ≤ c) (hn : n ≤ 100000) :
    Calls Tryd.prog 13 #[.bool false, pc b e num A n c] w fun e' w' => ∃ A' c', e' = .returned (.tuple #[.slice A' (4 + n) c', .int .i64 0]) ∧ 4 + n ≤ c' ∧ (Kd.int .u8).C w' A' (4 + n) (head4 b e num ++ xs) ∧ Below w.heap.size w w' := by
  have HS := Aside0.mk hS
  have HX := Aside0.mk hx
  have HC := Aside0.mk hc
  have HN := Aside0.mk hn
  have HM := Aside0.mk (show (n : Int) ≤ 100000 from by omega)
  clear hS hx hc hn
  have hinf := info_parts info5
  obtain ⟨i0, hi, hz, hz1, hz2⟩ := hinf
  go_enter Tryd.func13, Tryd.ntmps13
  go_wp2_with (fail)
  refine (of4 _ (HS.out.alloc _)).mono ?_
  rintro e1 w1 ⟨rfl, hb⟩
  have HP := Aside0.mk (blk_keep (new1 w (.cells #[.bool b, .bool e, .int .i64 num, .slice A n c] 29)) hb)
  have X := Aside0.mk (below_step (below_alloc (Below.refl _ w) (.cells #[.bool b, .bool e, .int .i64 num, .slice A n c] 29)) hb)
  clear hb
  obtain ⟨gp, hgp⟩ : ∃ gp, w.heap.size = gp := ⟨_, rfl⟩
  rw [hgp] at HP ⊢
  clear hgp
  go_upto_region 2 with (fail)
  have HQ := Aside0.mk (new1 w1 (.cells #[.int .i64 4, .int .i64 16777216, .int .u8 0] 91))
  have hb := below_alloc (Below.refl _ w1) (.cells #[.int .i64 4, .int .i64 16777216, .int .u8 0] 91)
  replace HP := Aside0.mk (blk_keep HP.out hb)
  replace X := Aside0.mk (below_step X.out hb)
  clear hb
  obtain ⟨gq, hgq⟩ : ∃ gq, w1.heap.size = gq := ⟨_, rfl⟩
  rw [hgq] at HQ ⊢
  clear hgq
  generalize w1.alloc (.cells #[.int .i64 4, .int .i64 16777216, .int .u8 0] 91) = w2 at HP HQ X ⊢
  obtain ⟨p0, p1, p2, p3⟩ := cells4 HP.out
  obtain ⟨q0, q1, q2⟩ := cells3 HQ.out
  go_wp2_with (fail)
  refine (has4 num _).mono ?_
  rintro e1 w3 ⟨rfl, hb⟩
  have hin : decide (0 ≤ num ∧ num < 16777216) = true := decide_eq_true ⟨h0, h1⟩
  rw [hin]
  clear hin p0 p1 p2 p3 q0 q1 q2
  replace HP := Aside0.mk (blk_keep HP.out hb)
  replace HQ := Aside0.mk (blk_keep HQ.out hb)
  replace X := Aside0.mk (below_step X.out hb)
  clear hb
  obtain ⟨p0, p1, p2, p3⟩ := cells4 HP.out
  obtain ⟨q0, q1, q2⟩ := cells3 HQ.out
  have hmk := fun W : World => run_make (P := Tryd.prog) W 22 5 i0 (.int .u8 0) Tryd.underlying22 hi hz .i64 .i64 4 (4 + n) (by omega) (by omega) (by rw [hz2]; have := HM.out; omega) (by have := HM.out; omega)
  rw [hz1] at hmk
  have HP3 := HP
  have X3 := X
  have hn0 : 0 ≤ (n : Int) := by omega
  have hn1 : (n : Int) ≤ 100000 := HM.out
  clear hi hz hz1 hz2
  go_upto_region 5 with (fail)
  have HR := Aside0.mk (made_row (W := w3) (m := 4) (c := 4 + n) (by omega) (by have := HN.out; unfold maxLen; omega))
  have hb := below_alloc (Below.refl _ w3) (.cells (madeCells #[.int .u8 0] (4 + n)) 5)
  replace HP := Aside0.mk (blk_keep HP.out hb)
  replace HQ := Aside0.mk (blk_keep HQ.out hb)
  replace X := Aside0.mk (below_step X.out hb)
  have GP := Aside0.mk (show gp < w3.heap.size ∧ w.heap.size ≤ w3.heap.size from ⟨by have := (Array.getElem?_eq_some_iff.1 HP3.out).1; exact this, X3.out.size⟩)
  clear hb HP3 X3 hmk
  clear p0 p1 p2 p3 q0 q1 q2
  obtain ⟨gr, hgr⟩ : ∃ gr, w3.heap.size = gr := ⟨_, rfl⟩
  rw [hgr] at HR GP ⊢
  clear hgr
  generalize w3.alloc (.cells (madeCells #[.int .u8 0] (4 + n)) 5) = w4 at HP HQ X HR ⊢
  obtain ⟨p0, p1, p2, p3⟩ := cells4 HP.out
  obtain ⟨q0, q1, q2⟩ := cells3 HQ.out
  go_wp2_with (fail)
  clear p0 p1 p2 p3 q0 q1 q2
  go_loopw [8, 9] (fun v8 v9 wr => ∃ k : Nat, k ≤ 4 ∧ v8 = .int .i64 (sh num k) ∧ v9 = .int .i64 (4 - 1 - (k : Int)) ∧ Aside0 ((Kd.int .u8).R 5 wr gr (fun _ => True) (.slice (some ⟨gr, 0, none⟩) 4 (4 + n)) (st4 num k)) ∧ Aside0 (Below gr w4 wr)) (fun _ v9 _ => (intOf v9 + 1).toNat)
  case atStart => exact ⟨0, Nat.zero_le _, rfl, rfl, HR, ⟨Below.refl _ _⟩⟩
  case round =>
    obtain ⟨k, hk, rfl, rfl, HRk, HBk⟩ := hrel
    have hcase : k = 0 ∨ k = 1 ∨ k = 2 ∨ k = 3 ∨ k = 4 := by omega
    rcases hcase with rfl | rfl | rfl | rfl | rfl
    · have e9 : ((4 : Int) - 1 - ((0 : Nat) : Int)) = 3 := by decide
      rw [e9]
      have HS1 := Aside0.mk (show st4 num (0 + 1) = (st4 num 0).set 3 (sh num 0 % 256) from rfl)
      have hm0 : 0 ≤ sh num 0 := by simp only [sh]; omega
      have hm1 : sh num 0 < 16777216 := by simp only [sh]; omega
      have HM8 := Aside0.mk (show sh num 0 / 256 = sh num (0 + 1) from by simp only [sh] <;> omega)
      generalize sh num 0 = m at hm0 hm1 HM8 HS1 ⊢
      obtain ⟨hcell, hfz⟩ := Kd.R_celln (0 : Int) HRk.out 3 (by decide) (by decide)
      rw [show ((3 : Int)).toNat = 3 from rfl] at hcell hfz
      clear e9
      go_wp2
      go_roundw
      case measure => simp [intOf]
      case rel => exact ⟨0 + 1, by omega, by rw [HM8.out], rfl, ⟨by rw [HS1.out]; exact Kd.R_putn HRk.out 3 (m % 256)⟩, ⟨Below.setCell HBk.out (Nat.le_refl _) _⟩⟩
    · have e9 : ((4 : Int) - 1 - ((1 : Nat) : Int)) = 2 := by decide
      rw [e9]
      have HS1 := Aside0.mk (show st4 num (1 + 1) = (st4 num 1).set 2 (sh num 1 % 256) from rfl)
      have hm0 : 0 ≤ sh num 1 := by simp only [sh]; omega
      have hm1 : sh num 1 < 16777216 := by simp only [sh]; omega
      have HM8 := Aside0.mk (show sh num 1 / 256 = sh num (1 + 1) from by simp only [sh] <;> omega)
      generalize sh num 1 = m at hm0 hm1 HM8 HS1 ⊢
      obtain ⟨hcell, hfz⟩ := Kd.R_celln (0 : Int) HRk.out 2 (by decide) (by decide)
      rw [show ((2 : Int)).toNat = 2 from rfl] at hcell hfz
      clear e9
      go_wp2
      go_roundw
      case measure => simp [intOf]
      case rel => exact ⟨1 + 1, by omega, by rw [HM8.out], rfl, ⟨by rw [HS1.out]; exact Kd.R_putn HRk.out 2 (m % 256)⟩, ⟨Below.setCell HBk.out (Nat.le_refl _) _⟩⟩
    · have e9 : ((4 : Int) - 1 - ((2 : Nat) : Int)) = 1 := by decide
      rw [e9]
      have HS1 := Aside0.mk (show st4 num (2 + 1) = (st4 num 2).set 1 (sh num 2 % 256) from rfl)
      have hm0 : 0 ≤ sh num 2 := by simp only [sh]; omega
      have hm1 : sh num 2 < 16777216 := by simp only [sh]; omega
      have HM8 := Aside0.mk (show sh num 2 / 256 = sh num (2 + 1) from by simp only [sh] <;> omega)
      generalize sh num 2 = m at hm0 hm1 HM8 HS1 ⊢
      obtain ⟨hcell, hfz⟩ := Kd.R_celln (0 : Int) HRk.out 1 (by decide) (by decide)
      rw [show ((1 : Int)).toNat = 1 from rfl] at hcell hfz
      clear e9
      go_wp2
      go_roundw
      case measure => simp [intOf]
      case rel => exact ⟨2 + 1, by omega, by rw [HM8.out], rfl, ⟨by rw [HS1.out]; exact Kd.R_putn HRk.out 1 (m % 256)⟩, ⟨Below.setCell HBk.out (Nat.le_refl _) _⟩⟩
    · have e9 : ((4 : Int) - 1 - ((3 : Nat) : Int)) = 0 := by decide
      rw [e9]
      have HS1 := Aside0.mk (show st4 num (3 + 1) = (st4 num 3).set 0 (sh num 3 % 256) from rfl)
      have hm0 : 0 ≤ sh num 3 := by simp only [sh]; omega
      have hm1 : sh num 3 < 16777216 := by simp only [sh]; omega
      have HM8 := Aside0.mk (show sh num 3 / 256 = sh num (3 + 1) from by simp only [sh] <;> omega)
      generalize sh num 3 = m at hm0 hm1 HM8 HS1 ⊢
      obtain ⟨hcell, hfz⟩ := Kd.R_celln (0 : Int) HRk.out 0 (by decide) (by decide)
      rw [show ((0 : Int)).toNat = 0 from rfl] at hcell hfz
      clear e9
      go_wp2
      go_roundw
      case measure => simp [intOf]
      case rel => exact ⟨3 + 1, by omega, by rw [HM8.out], rfl, ⟨by rw [HS1.out]; exact Kd.R_putn HRk.out 0 (m % 256)⟩, ⟨Below.setCell HBk.out (Nat.le_refl _) _⟩⟩
    · have e9 : ((4 : Int) - 1 - ((4 : Nat) : Int)) = -1 := by decide
      rw [e9]
      clear e9
      have HPr := Aside0.mk ((HBk.out.block gp GP.out.1).trans HP.out)
      have XR := Aside0.mk (show Below w.heap.size w wr from X.out.trans (HBk.out.mono GP.out.2))
      have HXr := Aside0.mk (Kd.C_below HX.out XR.out)
      obtain ⟨p0, p1, p2, p3⟩ := cells4 HPr.out
      obtain ⟨c0, f0⟩ := Kd.R_celln (0 : Int) HRk.out 0 (by decide) (by decide)
      rw [show ((0 : Int)).toNat = 0 from rfl] at c0 f0
      have hx0 : rdOf (0 : Int) (st4 num 4) 0 = sh num 3 % 256 := rfl
      rw [hx0] at c0
      clear hx0
      have hst : st4 num 4 = [sh num 3 % 256, sh num 2 % 256, sh num 1 % 256, sh num 0 % 256] := rfl
      rw [hst] at HRk
      clear hst
      have hb0 : 0 ≤ sh num 3 % 256 ∧ sh num 3 % 256 < 16 := by simp only [sh]; omega
      have HH := Aside0.mk (show ∀ b e, head4 b e num = [top b e + sh num 3 % 256, sh num 2 % 256, sh num 1 % 256, sh num 0 % 256] from fun b e => by simp only [head4, sh, List.cons.injEq, and_true]; omega)
      have o1 := Aside0.mk (or128 _ hb0.1 hb0.2)
      have o2 := Aside0.mk (or64 _ hb0.1 hb0.2)
      have o3 := Aside0.mk (or192 _ hb0.1 hb0.2)
      clear hb0
      generalize sh num 3 % 256 = x0 at *
      generalize sh num 2 % 256 = x1 at *
      generalize sh num 1 % 256 = x2 at *
      generalize sh num 0 % 256 = x3 at *
      have GR := Aside0.mk GP.out.2
      cases b with
      | false =>
        cases e with
        | false =>
          have HF := Aside0.mk HRk.out
          have XF := Aside0.mk XR.out
          have HXF := Aside0.mk HXr.out
          go_upto_region 15 with (fail)
          clear c0 f0 p0 p1 p2
          go_wp2_with ((with_reducible refine gate_builtin (b := .append) (xs := #[.tmp 56, .tmp 58]) rfl ?_); at_builtin; refine Kd.R_append_rows (Kd.int .u8) (w0 := w) w.heap.size rfl (.tmp 56) (.tmp 58) 22 5 (.int .u8 0) 1 rfl Tryd.underlying22 info5 rfl (by decide) (by omega) (.slice (some ⟨gr, 0, none⟩) 4 (4 + n)) ([x0, x1, x2, x3]) xs A n c (fun _ => True) (fun _ => False) rfl rfl ?aO ?aR (fun _ _ h => h) (fun _ h => h.elim) ?aF ?aB ?aS ?aL ?_; (case aO => exact Kd.R_lower HF.out GR.out); (case aR => exact Kd.C_below HX.out XF.out); (case aB => exact XF.out); (case aF => exact fun _ _ => trivial); (case aS => exact XF.out.size); (case aL => have := HN.out; simp only [List.length_cons, List.length_nil, List.length_set]; omega); intro v5 w5 ho5 hb5 hg5 hat5; have HO5 := Aside0.mk ho5; have HB5 := Aside0.mk hb5; clear ho5 hb5 hg5 hat5)
          obtain ⟨A', c', rfl, hc', hC⟩ := Kd.R_reads HO5.out
          go_ret2
          have hxl : xs.length = n := HX.out.1
          have hh : [x0, x1, x2, x3] = head4 false false num := by rw [HH.out]; simp [top, o1.out, o2.out, o3.out]; try omega
          rw [hh] at hc' hC
          have hl2 : (head4 false false num ++ xs).length = 4 + n := by rw [List.length_append, hxl]; rfl
          rw [hl2] at hc' hC
          exact ⟨A', c', by simp [hxl]; try omega, hc', hC, HB5.out⟩
        | true =>
          have HF := Aside0.mk (Kd.R_putn HRk.out 0 (Go.bits .or .u8 x0 64))
          have XF := Aside0.mk (XR.out.setCell (p := ⟨gr, (0 : Int).toNat, none⟩) GR.out (.int .u8 (Go.bits .or .u8 x0 64)))
          go_upto_region 15 with (fail)
          clear c0 f0 p0 p1 p2
          go_wp2_with ((with_reducible refine gate_builtin (b := .append) (xs := #[.tmp 56, .tmp 58]) rfl ?_); at_builtin; refine Kd.R_append_rows (Kd.int .u8) (w0 := w) w.heap.size rfl (.tmp 56) (.tmp 58) 22 5 (.int .u8 0) 1 rfl Tryd.underlying22 info5 rfl (by decide) (by omega) (.slice (some ⟨gr, 0, none⟩) 4 (4 + n)) ([x0, x1, x2, x3].set (0 : Int).toNat (Go.bits .or .u8 x0 64)) xs A n c (fun _ => True) (fun _ => False) rfl rfl ?aO ?aR (fun _ _ h => h) (fun _ h => h.elim) ?aF ?aB ?aS ?aL ?_; (case aO => exact Kd.R_lower HF.out GR.out); (case aR => exact Kd.C_below HX.out XF.out); (case aB => exact XF.out); (case aF => exact fun _ _ => trivial); (case aS => exact XF.out.size); (case aL => have := HN.out; simp only [List.length_cons, List.length_nil, List.length_set]; omega); intro v5 w5 ho5 hb5 hg5 hat5; have HO5 := Aside0.mk ho5; have HB5 := Aside0.mk hb5; clear ho5 hb5 hg5 hat5)
          obtain ⟨A', c', rfl, hc', hC⟩ := Kd.R_reads HO5.out
          go_ret2
          have hxl : xs.length = n := HX.out.1
          have hh : [x0, x1, x2, x3].set (0 : Int).toNat (Go.bits .or .u8 x0 64) = head4 false true num := by rw [HH.out]; simp [top, o1.out, o2.out, o3.out]; try omega
          rw [hh] at hc' hC
          have hl2 : (head4 false true num ++ xs).length = 4 + n := by rw [List.length_append, hxl]; rfl
          rw [hl2] at hc' hC
          exact ⟨A', c', by simp [hxl]; try omega, hc', hC, HB5.out⟩
      | true =>
        cases e with
        | false =>
          have HF := Aside0.mk (Kd.R_putn HRk.out 0 (Go.bits .or .u8 x0 128))
          have XF := Aside0.mk (XR.out.setCell (p := ⟨gr, (0 : Int).toNat, none⟩) GR.out (.int .u8 (Go.bits .or .u8 x0 128)))
          go_upto_region 15 with (fail)
          clear c0 f0 p0 p1 p2
          go_wp2_with ((with_reducible refine gate_builtin (b := .append) (xs := #[.tmp 56, .tmp 58]) rfl ?_); at_builtin; refine Kd.R_append_rows (Kd.int .u8) (w0 := w) w.heap.size rfl (.tmp 56) (.tmp 58) 22 5 (.int .u8 0) 1 rfl Tryd.underlying22 info5 rfl (by decide) (by omega) (.slice (some ⟨gr, 0, none⟩) 4 (4 + n)) ([x0, x1, x2, x3].set (0 : Int).toNat (Go.bits .or .u8 x0 128)) xs A n c (fun _ => True) (fun _ => False) rfl rfl ?aO ?aR (fun _ _ h => h) (fun _ h => h.elim) ?aF ?aB ?aS ?aL ?_; (case aO => exact Kd.R_lower HF.out GR.out); (case aR => exact Kd.C_below HX.out XF.out); (case aB => exact XF.out); (case aF => exact fun _ _ => trivial); (case aS => exact XF.out.size); (case aL => have := HN.out; simp only [List.length_cons, List.length_nil, List.length_set]; omega); intro v5 w5 ho5 hb5 hg5 hat5; have HO5 := Aside0.mk ho5; have HB5 := Aside0.mk hb5; clear ho5 hb5 hg5 hat5)
          obtain ⟨A', c', rfl, hc', hC⟩ := Kd.R_reads HO5.out
          go_ret2
          have hxl : xs.length = n := HX.out.1
          have hh : [x0, x1, x2, x3].set (0 : Int).toNat (Go.bits .or .u8 x0 128) = head4 true false num := by rw [HH.out]; simp [top, o1.out, o2.out, o3.out]; try omega
          rw [hh] at hc' hC
          have hl2 : (head4 true false num ++ xs).length = 4 + n := by rw [List.length_append, hxl]; rfl
          rw [hl2] at hc' hC
          exact ⟨A', c', by simp [hxl]; try omega, hc', hC, HB5.out⟩
        | true =>
          have HF := Aside0.mk (Kd.R_putn (Kd.R_putn HRk.out 0 (Go.bits .or .u8 x0 128)) 0 (Go.bits .or .u8 (Go.bits .or .u8 x0 128) 64))
          have XF := Aside0.mk ((XR.out.setCell (p := ⟨gr, (0 : Int).toNat, none⟩) GR.out (.int .u8 (Go.bits .or .u8 x0 128))).setCell (p := ⟨gr, (0 : Int).toNat, none⟩) GR.out (.int .u8 (Go.bits .or .u8 (Go.bits .or .u8 x0 128) 64)))
          go_upto_region 15 with (fail)
          clear c0 f0 p0 p1 p2
          go_wp2_with ((with_reducible refine gate_builtin (b := .append) (xs := #[.tmp 56, .tmp 58]) rfl ?_); at_builtin; refine Kd.R_append_rows (Kd.int .u8) (w0 := w) w.heap.size rfl (.tmp 56) (.tmp 58) 22 5 (.int .u8 0) 1 rfl Tryd.underlying22 info5 rfl (by decide) (by omega) (.slice (some ⟨gr, 0, none⟩) 4 (4 + n)) (([x0, x1, x2, x3].set (0 : Int).toNat (Go.bits .or .u8 x0 128)).set (0 : Int).toNat (Go.bits .or .u8 (Go.bits .or .u8 x0 128) 64)) xs A n c (fun _ => True) (fun _ => False) rfl rfl ?aO ?aR (fun _ _ h => h) (fun _ h => h.elim) ?aF ?aB ?aS ?aL ?_; (case aO => exact Kd.R_lower HF.out GR.out); (case aR => exact Kd.C_below HX.out XF.out); (case aB => exact XF.out); (case aF => exact fun _ _ => trivial); (case aS => exact XF.out.size); (case aL => have := HN.out; simp only [List.length_cons, List.length_nil, List.length_set]; omega); intro v5 w5 ho5 hb5 hg5 hat5; have HO5 := Aside0.mk ho5; have HB5 := Aside0.mk hb5; clear ho5 hb5 hg5 hat5)
          obtain ⟨A', c', rfl, hc', hC⟩ := Kd.R_reads HO5.out
          go_ret2
          have hxl : xs.length = n := HX.out.1
          have hh : ([x0, x1, x2, x3].set (0 : Int).toNat (Go.bits .or .u8 x0 128)).set (0 : Int).toNat (Go.bits .or .u8 (Go.bits .or .u8 x0 128) 64) = head4 true true num := by rw [HH.out]; simp [top, o1.out, o2.out, o3.out]; try omega
          rw [hh] at hc' hC
          have hl2 : (head4 true true num ++ xs).length = 4 + n := by rw [List.length_append, hxl]; rfl
          rw [hl2] at hc' hC
          exact ⟨A', c', by simp [hxl]; try omega, hc', hC, HB5.out⟩

set_option maxHeartbeats 2000000 in
set_option maxRecDepth 100000 in
theorem put_no2 (b e : Bool) (num : Int) (A : Option Addr) (n c : Nat) (w : World) (hS : Shapes w) (h : ¬ (0 ≤ num ∧ num < 4096)) :
    Calls Tryd.prog 13 #[.bool true, pc b e num A n c] w fun e' w' => e' = .returned (.tuple #[.slice none 0 0, .int .i64 5]) ∧ Below w.heap.size w w' := by
  have HS := Aside0.mk hS
  have HH := Aside0.mk h
  clear hS h
  go_enter Tryd.func13, Tryd.ntmps13
  go_wp2_with (fail)
  refine (of2 _ (HS.out.alloc _)).mono ?_
  rintro e1 w1 ⟨rfl, hb⟩
  have HP := Aside0.mk (blk_keep (new1 w (.cells #[.bool b, .bool e, .int .i64 num, .slice A n c] 29)) hb)
  have X := Aside0.mk (below_step (below_alloc (Below.refl _ w) (.cells #[.bool b, .bool e, .int .i64 num, .slice A n c] 29)) hb)
  clear hb
  obtain ⟨gp, hgp⟩ : ∃ gp, w.heap.size = gp := ⟨_, rfl⟩
  rw [hgp] at HP ⊢
  clear hgp
  go_upto_region 2 with (fail)
  have HQ := Aside0.mk (new1 w1 (.cells #[.int .i64 2, .int .i64 4096, .int .u8 15] 91))
  have hb := below_alloc (Below.refl _ w1) (.cells #[.int .i64 2, .int .i64 4096, .int .u8 15] 91)
  replace HP := Aside0.mk (blk_keep HP.out hb)
  replace X := Aside0.mk (below_step X.out hb)
  clear hb
  obtain ⟨gq, hgq⟩ : ∃ gq, w1.heap.size = gq := ⟨_, rfl⟩
  rw [hgq] at HQ ⊢
  clear hgq
  generalize w1.alloc (.cells #[.int .i64 2, .int .i64 4096, .int .u8 15] 91) = w2 at HP HQ X ⊢
  obtain ⟨p0, p1, p2, p3⟩ := cells4 HP.out
  obtain ⟨q0, q1, q2⟩ := cells3 HQ.out
  go_wp2_with (fail)
  refine (has2 num _).mono ?_
  rintro e1 w3 ⟨rfl, hb⟩
  have hin : decide (0 ≤ num ∧ num < 4096) = false := decide_eq_false HH.out
  rw [hin]
  clear hin p0 p1 p2 p3 q0 q1 q2
  replace X := Aside0.mk (below_step X.out hb)
  clear hb
  go_wp2
  go_ret2
  exact ⟨rfl, X.out⟩

set_option maxHeartbeats 2000000 in
set_option maxRecDepth 100000 in
theorem put_no4 (b e : Bool) (num : Int) (A : Option Addr) (n c : Nat) (w : World) (hS : Shapes w) (h : ¬ (0 ≤ num ∧ num < 16777216)) :
    Calls Tryd.prog 13 #[.bool false, pc b e num A n c] w fun e' w' => e' = .returned (.tuple #[.slice none 0 0, .int .i64 5]) ∧ Below w.heap.size w w' := by
  have HS := Aside0.mk hS
  have HH := Aside0.mk h
  clear hS h
  go_enter Tryd.func13, Tryd.ntmps13
  go_wp2_with (fail)
  refine (of4 _ (HS.out.alloc _)).mono ?_
  rintro e1 w1 ⟨rfl, hb⟩
  have HP := Aside0.mk (blk_keep (new1 w (.cells #[.bool b, .bool e, .int .i64 num, .slice A n c] 29)) hb)
  have X := Aside0.mk (below_step (below_alloc (Below.refl _ w) (.cells #[.bool b, .bool e, .int .i64 num, .slice A n c] 29)) hb)
  clear hb
  obtain ⟨gp, hgp⟩ : ∃ gp, w.heap.size = gp := ⟨_, rfl⟩
  rw [hgp] at HP ⊢
  clear hgp
  go_upto_region 2 with (fail)
  have HQ := Aside0.mk (new1 w1 (.cells #[.int .i64 4, .int .i64 16777216, .int .u8 0] 91))
  have hb := below_alloc (Below.refl _ w1) (.cells #[.int .i64 4, .int .i64 16777216, .int .u8 0] 91)
  replace HP := Aside0.mk (blk_keep HP.out hb)
  replace X := Aside0.mk (below_step X.out hb)
  clear hb
  obtain ⟨gq, hgq⟩ : ∃ gq, w1.heap.size = gq := ⟨_, rfl⟩
  rw [hgq] at HQ ⊢
  clear hgq
  generalize w1.alloc (.cells #[.int .i64 4, .int .i64 16777216, .int .u8 0] 91) = w2 at HP HQ X ⊢
  obtain ⟨p0, p1, p2, p3⟩ := cells4 HP.out
  obtain ⟨q0, q1, q2⟩ := cells3 HQ.out
  go_wp2_with (fail)
  refine (has4 num _).mono ?_
  rintro e1 w3 ⟨rfl, hb⟩
  have hin : decide (0 ≤ num ∧ num < 16777216) = false := decide_eq_false HH.out
  rw [hin]
  clear hin p0 p1 p2 p3 q0 q1 q2
  replace X := Aside0.mk (below_step X.out hb)
  clear hb
  go_wp2
  go_ret2
  exact ⟨rfl, X.out⟩

/-- A piece's octets: the header, and what stands behind it. -/
def putB (short b e : Bool) (num : Int) (xs : List Int) : List Int := (if short then head2 b e num else head4 b e num) ++ xs
def wide (short : Bool) : Nat := if short then 2 else 4
theorem put_yes (short b e : Bool) (num : Int) (A : Option Addr) (n c : Nat) (xs : List Int) (w : World) (hS : Shapes w) (h0 : 0 ≤ num) (h1 : num < numbers short) (hx : (Kd.int .u8).C w A n xs) (hc : n ≤ c) (hn : n ≤ 100000) :
    Calls Tryd.prog 13 #[.bool short, pc b e num A n c] w fun e' w' => ∃ A' c', e' = .returned (.tuple #[.slice A' (wide short + n) c', .int .i64 0]) ∧ wide short + n ≤ c' ∧ (Kd.int .u8).C w' A' (wide short + n) (putB short b e num xs) ∧ Below w.heap.size w w' := by
  cases short with
  | true => exact put2 b e num A n c xs w hS h0 h1 hx hc hn
  | false => exact put4 b e num A n c xs w hS h0 h1 hx hc hn
theorem put_no (short b e : Bool) (num : Int) (A : Option Addr) (n c : Nat) (w : World) (hS : Shapes w) (h : ¬ (0 ≤ num ∧ num < numbers short)) :
    Calls Tryd.prog 13 #[.bool short, pc b e num A n c] w fun e' w' => e' = .returned (.tuple #[.slice none 0 0, .int .i64 5]) ∧ Below w.heap.size w w' := by
  cases short with
  | true => exact put_no2 b e num A n c w hS h
  | false => exact put_no4 b e num A n c w hS h

end Go.Proofs.YtgopklnfdlnojaaDoor.Gp
