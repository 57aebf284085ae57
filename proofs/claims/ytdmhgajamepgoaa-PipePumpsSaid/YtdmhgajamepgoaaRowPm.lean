/- What comes of all chunks comes out of Pump in order, each once, and no more than is wanted; each chunk is worked on once at most, in order, and all that was wanted: the law marlinelaw25.PipePumps answers true for every input, on every schedule, without a data race. No condition. -/
import Derived.Test.YtdmhgajamepgoaaRows
import Derived.Test.YtdmhgajamepgoaaSf
import Derived.Conc.HoldsTime
import Derived.ChangeOld
import Derived.OpenShut
import Derived.Below
import Derived.Carry
set_option linter.unusedVariables false
set_option linter.unusedSimpArgs false
set_option linter.unusedSectionVars false
namespace Go.Proofs.Ytdmhgajamepgoaa.RowPipePumps
open Go Go.ChangeShapes Go.WideShapes Go.ChangeAt Go.RowKit Go.Conc Go.ConcM Go.Proofs.Ytdmhgajamepgoaa.Q

theorem own : ownKnob Try.prog.godebug = none := by kernel_rfl
theorem laidOut : laidOutB Try.prog = true := by kernel_rfl

def Ended (W : World) (v : Value) (w : World) : Prop := v = .bool true ∧ Sat W [] w
theorem Ended.below {W w' : World} (h : Sat W [] w') : Below W.heap.size W { w' with os := W.os, tape := W.tape } := ⟨rfl, rfl, h.out, h.size, h.low⟩
theorem Sat.nil {B : World} {s : List Chunk} {w : World} (h : Sat B s w) : Sat B [] w := ⟨h.os, h.out, h.size, h.low, by simp, by simp, by simp⟩

theorem kept {W w' : World} (h : Sat W [] w') (may : MemPlace → Prop) : W.keptBut { w' with os := W.os } may := by
  refine ⟨rfl, h.out, fun i hi => ?_⟩
  have e : ({ w' with os := W.os } : World).heap[i]? = W.heap[i]? := h.low i hi
  rw [e]
  split <;> simp_all

theorem rds_of {W : World} {a : Addr} {j : Nat} {u u0 : Value} (h0 : W.cell? (a.add 0) = some u0) (h : W.cell? (a.add j) = some u) : ∃ b o, a = ⟨b, o, none⟩ ∧ RDs W [] b (o + j) u := by
  obtain ⟨b, o, spot⟩ := a
  have hspot : spot = none := by simpa [Addr.add] using World.cell?_spot h0
  subst hspot
  refine ⟨b, o, rfl, .inr ?_⟩
  rw [Go.WideShapes.add_plain] at h
  unfold World.cell? at h
  split at h
  · rename_i C ty fr hb
    exact ⟨C, ty, fr, hb, h⟩
  · cases h
theorem rowS_gen {W : World} {a : Addr} {cap : Nat} {L : List Value} (h : ∀ j u, L[j]? = some u → W.cell? (a.add j) = some u) : RowS W [] (.slice (some a) L.length cap) L :=
  ⟨some a, cap, rfl, fun j u hj => let ⟨b, o, e, hr⟩ := rds_of (h 0 (L[0]'(Nat.lt_of_le_of_lt (Nat.zero_le _) (List.getElem?_eq_some_iff.1 hj).1)) (List.getElem?_eq_getElem _)) (h j u hj); ⟨b, o, congrArg some e, hr⟩⟩

theorem build {α : Type} {Q : Nat → α → Prop} (n : Nat) (h : ∀ i, i < n → ∃ a, Q i a) : ∃ xs : List α, xs.length = n ∧ ∀ (i : Nat) (x : α), xs[i]? = some x → Q i x := by
  induction n with
  | zero => exact ⟨[], rfl, fun i x hx => by simp at hx⟩
  | succ n ih =>
    obtain ⟨xs, hl, hq⟩ := ih (fun i hi => h i (by omega))
    obtain ⟨a, ha⟩ := h n (by omega)
    refine ⟨xs ++ [a], by simp [hl], fun i x hx => ?_⟩
    by_cases hi : i < n
    · rw [List.getElem?_append_left (by omega)] at hx
      exact hq i x hx
    · have hlt := (List.getElem?_eq_some_iff.1 hx).1
      simp only [List.length_append, List.length_singleton] at hlt
      obtain rfl : i = n := by omega
      rw [List.getElem?_append_right (by omega), hl, Nat.sub_self] at hx
      simp at hx
      exact hx ▸ ha

section
variable {H : Type} {enc : TypeId × Value → H} {W : World}
/-- One chunk. -/
theorem row_of {fuel : Nat} {v : Value} {x : DataW H × List MemPlace} (h : DataW.trod enc Try.prog W 0 (fun _ => true) true fuel 28 [v] = some x) : ∃ l : List Int, RowS W [] v (l.map iv) := by
  rcases open_ints Try.underlying28 Try.underlying3 (by kernel_rfl) h with ⟨hcs, _⟩ | ⟨a, len, cap, zs, hcs, _, hl, _, hz, _, hcell, _⟩
  · simp at hcs
    subst hcs
    exact ⟨[], none, 0, rfl, fun j u h => by simp at h⟩
  · simp at hcs
    subst hcs
    have hz' : zs.length = cap := by simpa using hz
    have ht : ((zs.take len).map iv).length = len := by rw [List.length_map, List.length_take]; omega
    refine ⟨zs.take len, ?_⟩
    have := rowS_gen (W := W) (a := a) (cap := cap) (L := (zs.take len).map iv) fun j u hj => by
      rw [List.getElem?_map, List.getElem?_take] at hj
      split at hj
      · cases hx : zs[j]? with
        | none => rw [hx] at hj; cases hj
        | some y =>
          rw [hx] at hj
          obtain rfl := Option.some.inj hj
          have hj' := (List.getElem?_eq_some_iff.1 hx).1
          rw [hcell j hj', List.getD_eq_getElem?_getD, hx]
          rfl
      · cases hj
    rw [ht] at this
    exact this
/-- All chunks. -/
theorem rows_of {fuel : Nat} {A : Option Addr} {ln cap : Nat} {x : DataW H × List MemPlace} (h : DataW.trod enc Try.prog W 0 (fun _ => true) true fuel 45 [.slice A ln cap] = some x) :
    ∃ (LL : List (List Int)) (vs : List Value), ln = LL.length ∧ RowS W [] (.slice A ln cap) vs ∧ Rows0 W vs LL := by
  have hc : Try.prog.cellsOf 28 = 1 := by kernel_rfl
  rcases DataW.trod_slice Try.underlying45 h with ⟨hcs, _⟩ | ⟨a, len, cap', elems, rest, n, _, hcs, _, _, hl, _, hlen, hel, _, _⟩
  · simp at hcs
    obtain ⟨rfl, rfl, rfl⟩ := hcs
    exact ⟨[], [], rfl, ⟨none, 0, rfl, fun j u h => by simp at h⟩, fun i l h => by simp at h⟩
  · simp at hcs
    obtain ⟨rfl, rfl, rfl⟩ := hcs
    have each : ∀ i, i < ln → ∃ p : Value × List Int, W.cell? (a.add i) = some p.1 ∧ RowS W [] p.1 (p.2.map iv) := by
      intro i hi
      have hE := hel i hi
      rw [hc, Nat.mul_one] at hE
      cases hy : elems[i]? with
      | none => rw [List.getElem?_eq_none_iff] at hy; omega
      | some y =>
        rw [hy, Option.bind_eq_some_iff] at hE
        obtain ⟨c1, hc1, hy1⟩ := hE
        obtain ⟨h1, _, h2⟩ := World.cells?_some hc1
        obtain ⟨v, rfl⟩ : ∃ v, c1 = [v] := by
          match c1, h1 with
          | [v], _ => exact ⟨v, rfl⟩
        have hcell := cell_of_cells?_one hc1
        obtain ⟨l, hrow⟩ := row_of hy1
        exact ⟨(v, l), hcell, hrow⟩
    obtain ⟨ps, hpl, hps⟩ := build ln each
    refine ⟨ps.map (·.2), ps.map (·.1), by simp [hpl], ?_, fun i l hil => ?_⟩
    · have := rowS_gen (W := W) (a := a) (cap := cap) (L := ps.map (·.1)) fun j u hj => by
        rw [List.getElem?_map] at hj
        cases hx : ps[j]? with
        | none => rw [hx] at hj; cases hj
        | some p => rw [hx] at hj; obtain rfl := Option.some.inj hj; exact (hps j p hx).1
      rw [List.length_map, hpl] at this
      exact this
    · rw [List.getElem?_map] at hil
      cases hx : ps[i]? with
      | none => rw [hx] at hil; cases hil
      | some p =>
        rw [hx] at hil
        obtain rfl := Option.some.inj hil
        exact ⟨p.1, by rw [List.getElem?_map, hx]; rfl, (hps i p hx).2⟩
end

set_option maxRecDepth 100000 in
theorem lifted (os : Os) (started : os.Started) (H : Type) (enc : TypeId × Value → H) (F : Stop.Interp) :
    ReturnsInLeavingWide Rows.pipePumpsRow.assume Try.checked os 5 .any (Rows.pipePumpsSpec.pre6 enc Try.prog Try.f5 Rows.pipePumpsRow.domain false) ((OpenSpec.ofChange Rows.pipePumpsSpec).postWith enc Try.prog Try.f5 F (outsideKept [.timePasses]) false true false) := by
  refine returnsInLeavingWide_of_change_time (C := Try.checked) own started Try.func5
    (ChangeSpec.witness6c (enc := enc) (C := Try.checked) ⟨#[], #[.slice none 0 0, .int .u8 0, .int .i16 0], []⟩ 8 (by kernel_rfl) (by kernel_rfl) (by kernel_rfl) (by kernel_rfl)) ?_
  intro W base args ds gs before hval0 hW _ _ _
  have hval : ∀ (j : Nat) t v, Try.f5.params[j]? = some t → args[j]? = some v → Value.okWide Try.prog W .any base t v := hval0
  have hW' := hW
  obtain ⟨p, q, hA0, hV, rfl, _, _⟩ := hW
  have hA : DataW.TrodAll enc Try.prog W 0 (fun _ => true) true Try.f5.params.toList args.toList ds p := hA0
  rw [Try.params5] at hA hval
  obtain ⟨v0, v1, v2, d0, d1, d2, p0, p1, p2, rfl, rfl, rfl, h0, h1, h2⟩ := trodAll_three hA
  obtain ⟨rfl, rfl⟩ := trodVars_none hV
  have lt0 : ∀ x ∈ p0, x.block < W.heap.size := by obtain ⟨m, hm⟩ := h0; exact DataW.trod_lt m _ _ _ hm
  obtain ⟨a, rfl, rfl, rfl, wa⟩ := open_int Try.underlying5 (hval 1 5 v1 rfl rfl) h1
  obtain ⟨b, rfl, rfl, rfl, wb⟩ := open_int Try.underlying46 (hval 2 46 v2 rfl rfl) h2
  have hab : 0 ≤ a ∧ a ≤ 255 := by
    have h := wa
    simp [Lit.wf, IntKind.min, IntKind.max, IntKind.signed, IntKind.bits] at h
    omega
  have hbb : -32768 ≤ b ∧ b ≤ 32767 := by
    have h := wb
    simp [Lit.wf, IntKind.min, IntKind.max, IntKind.signed, IntKind.bits] at h
    omega
  obtain ⟨r, rfl⟩ := Int.eq_ofNat_of_zero_le hab.1
  obtain ⟨A, ln, cap, rfl⟩ := okWide_slice Try.underlying45 (hval 0 45 v0 rfl rfl)
  have k0 := h0
  obtain ⟨LL, vs, rfl, hrow, hrows⟩ : ∃ (LL : List (List Int)) (vs : List Value), ln = LL.length ∧ RowS W [] (.slice A ln cap) vs ∧ Rows0 W vs LL := by
    obtain ⟨fuel, hf⟩ := h0
    exact rows_of hf
  clear hA0 hval0
  simp only [List.append_nil] at hW'
  have hj : J (CMv Try.prog W (Ended W)) ⟨[], 0, .alone⟩ (G (Frame.enter Try.prog 5 #[.slice A LL.length cap, .int .u8 r, .int .i16 b] .normal) []) :=
    j_of_lawD Try.func5 (c := Try.f5.body.getD .skip) (by rfl) (pumps_walk (fun s w hs => ⟨rfl, Sat.nil hs⟩) r (by omega) b hbb LL vs A cap hrow hrows)
  obtain ⟨M, last, o, w', t', r1, r2, r3, v, e, hp, g1, g2, g3, g4⟩ := runs_of_j hj
  refine ⟨M, last, o, w', t', r1, r2, r3, v, e, ⟨?_, ?_⟩, g1, g2, g3, g4⟩
  · obtain ⟨rfl, hk⟩ := hp
    have bel := Ended.below hk
    have hT : DataW.Trod enc Try.prog { w' with os := W.os } 0 (fun b => decide (b < W.heap.size)) true 45 (.slice A LL.length cap) d0 p0 :=
      DataW.Trod.of_heap (w := { w' with os := W.os, tape := W.tape }) (w' := { w' with os := W.os }) (by rfl) (Below.trod laidOut (by kernel_rfl) (of_decide_eq_true (by kernel_rfl)) k0 bel lt0)
    exact ⟨_, _, _, [], _, [], hW', trodAll_mk1 (shut_bool Try.underlying4 _), trodAll_mk3 hT (shut_int Try.underlying5 wa) (shut_int Try.underlying46 wb), rfl, kept hk _, fun h => by cases h⟩
  · rw [hp.2.os]; exact ⟨0, rfl⟩

theorem row : Rows.PipePumpsSaid :=
  OpenClaim.holds_of_wide_leaving_time 5 Try.f5 rfl rfl rfl rfl rfl rfl rfl ⟨rfl, rfl, rfl, rfl, rfl⟩ rfl rfl rfl rfl rfl (by kernel_rfl) Try.func5 (by kernel_rfl)
    (of_decide_eq_true (by kernel_rfl)) (by unfold Func.isWrapper; first | (rw [if_pos (by decide +kernel)]; kernel_rfl) | (rw [if_neg (by decide +kernel)]; exact ⟨rfl, rfl⟩))
    (fun os started H enc _ F => lifted os started H enc F)
#print axioms row
end Go.Proofs.Ytdmhgajamepgoaa.RowPipePumps
namespace Go.Proofs.Ytdmhgajamepgoaa
theorem pipePumps_holds : Rows.PipePumpsSaid := RowPipePumps.row
end Go.Proofs.Ytdmhgajamepgoaa
