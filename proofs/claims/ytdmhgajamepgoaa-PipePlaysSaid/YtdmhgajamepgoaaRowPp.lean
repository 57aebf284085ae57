/- The ring does what the document's queue does, act by act: the law marlinelaw25.PipePlays answers true for every input, on every schedule, without a data race. No condition. -/
import Derived.Test.YtdmhgajamepgoaaRows
import Derived.Test.YtdmhgajamepgoaaRz
import Derived.Conc.HoldsTime
import Derived.ChangeOld
import Derived.OpenShut
import Derived.Below
import Derived.Carry
set_option linter.unusedVariables false
set_option linter.unusedSimpArgs false
set_option linter.unusedSectionVars false
namespace Go.Proofs.Ytdmhgajamepgoaa.RowPipePlays
open Go Go.ChangeShapes Go.WideShapes Go.ChangeAt Go.RowKit Go.Conc Go.ConcM Go.Proofs.Ytdmhgajamepgoaa.Q

theorem own : ownKnob Try.prog.godebug = none := by kernel_rfl
theorem laidOut : laidOutB Try.prog = true := by kernel_rfl

def Ended (W : World) (v : Value) (w : World) : Prop := v = .bool true ∧ Sat W [] w
theorem Ended.below {W w' : World} (h : Sat W [] w') : Below W.heap.size W { w' with os := W.os, tape := W.tape } := ⟨rfl, rfl, h.out, h.size, h.low⟩
theorem Sat.nil {B : World} {s : List Chunk} {w : World} (h : Sat B s w) : Sat B [] w := ⟨h.os, h.out, h.size, h.low, by simp, by simp, by simp⟩

theorem kept {W w' : World} (h : Sat W [] w') (may : MemPlace → Prop) : W.keptBut { w' with os := W.os } may := by
  refine ⟨rfl, h.out, fun i hi => ?_⟩
  have e : ({ w' with os := W.os } : World).heap[i]? = W.heap[i]? := h.low i hi
  rw [e]
  split <;> simp_all

theorem rowS_of {W : World} {a : Addr} {len cap : Nat} {zs : List Int} (hl : len ≤ zs.length) (hc : ∀ i, i < zs.length → W.cell? (a.add i) = some (.int .u8 (zs.getD i 0))) :
    RowS W [] (.slice (some a) (zs.take len).length cap) ((zs.take len).map ub) := by
  refine ⟨some a, cap, by rw [List.length_map], fun j u hj => ?_⟩
  rw [List.getElem?_map] at hj
  cases hx : (zs.take len)[j]? with
  | none => rw [hx] at hj; cases hj
  | some x =>
    rw [hx] at hj
    obtain rfl := Option.some.inj hj
    rw [List.getElem?_take] at hx
    have hx' : zs[j]? = some x := by
      split at hx
      · exact hx
      · cases hx
    have hjz : j < zs.length := (List.getElem?_eq_some_iff.1 hx').1
    have h0 := hc 0 (by omega)
    have hz : a.add 0 = a := by simp [Addr.add]
    rw [hz] at h0
    have hs : a.spot = none := by
      cases hsp : a.spot with
      | none => rfl
      | some s =>
        unfold World.cell? at h0
        rw [hsp] at h0
        split at h0 <;> simp at h0
    obtain ⟨b, o, sp⟩ := a
    dsimp only at hs
    subst hs
    refine ⟨b, o, rfl, .inr ?_⟩
    have hj1 := hc j hjz
    have ha : (⟨b, o, none⟩ : Addr).add j = ⟨b, o + j, none⟩ := by
      unfold Addr.add
      split
      · rename_i h; subst h; rfl
      · rfl
    rw [ha] at hj1
    unfold World.cell? at hj1
    split at hj1
    · rename_i C ty fr hb
      refine ⟨C, ty, fr, hb, ?_⟩
      have hd : zs.getD j 0 = x := by rw [List.getD_eq_getElem?_getD, hx']; rfl
      rw [hd] at hj1
      exact hj1
    · cases hj1

set_option maxRecDepth 100000 in
theorem lifted (os : Os) (started : os.Started) (H : Type) (enc : TypeId × Value → H) (F : Stop.Interp) :
    ReturnsInLeavingWide Rows.pipePlaysRow.assume Try.checked os 3 .any (Rows.pipePlaysSpec.pre6 enc Try.prog Try.f3 Rows.pipePlaysRow.domain false) ((OpenSpec.ofChange Rows.pipePlaysSpec).postWith enc Try.prog Try.f3 F (outsideKept [.timePasses]) false true false) := by
  refine returnsInLeavingWide_of_change_time (C := Try.checked) own started Try.func3
    (ChangeSpec.witness6c (enc := enc) (C := Try.checked) ⟨#[], #[.int .i64 0, .slice none 0 0], []⟩ 8 (by kernel_rfl) (by kernel_rfl) (by kernel_rfl) (by kernel_rfl)) ?_
  intro W base args ds gs before hval0 hW _ _ _
  have hval : ∀ (j : Nat) t v, Try.f3.params[j]? = some t → args[j]? = some v → Value.okWide Try.prog W .any base t v := hval0
  have hW' := hW
  obtain ⟨p, q, hA0, hV, rfl, _, _⟩ := hW
  have hA : DataW.TrodAll enc Try.prog W 0 (fun _ => true) true Try.f3.params.toList args.toList ds p := hA0
  rw [Try.params3] at hA hval
  obtain ⟨v0, v1, d0, d1, p0, p1, rfl, rfl, rfl, h0, h1⟩ := trodAll_two hA
  obtain ⟨rfl, rfl⟩ := trodVars_none hV
  have lt1 : ∀ x ∈ p1, x.block < W.heap.size := by obtain ⟨m, hm⟩ := h1; exact DataW.trod_lt m _ _ _ hm
  obtain ⟨a, rfl, rfl, rfl, wa⟩ := open_int Try.underlying3 (hval 0 3 v0 rfl rfl) h0
  obtain ⟨A, ln, cap, rfl⟩ := okWide_slice Try.underlying22 (hval 1 22 v1 rfl rfl)
  have k1 := h1
  obtain ⟨l, rfl, hrow, hlb⟩ : ∃ l : List Int, ln = l.length ∧ RowS W [] (.slice A l.length cap) (l.map ub) ∧ ∀ x ∈ l, 0 ≤ x ∧ x ≤ 255 := by
    obtain ⟨fuel, hf⟩ := h1
    rcases open_ints Try.underlying22 Try.underlying5 (by kernel_rfl) hf with ⟨hcs, _⟩ | ⟨x, ll, c, zs, hcs, _, hl, hm, hz, _, hcell, hwz⟩
    · simp [Value.cells] at hcs
      obtain ⟨rfl, rfl, rfl⟩ := hcs
      exact ⟨[], rfl, ⟨none, 0, rfl, fun j u h => by simp at h⟩, by simp⟩
    · simp [Value.cells] at hcs
      obtain ⟨rfl, rfl, rfl⟩ := hcs
      have hz' : zs.length = cap := by simpa using hz
      have ht : (zs.take ln).length = ln := by rw [List.length_take]; omega
      exact ⟨zs.take ln, ht.symm, rowS_of (by omega) hcell, fun y hy => by
        have h := hwz y (List.mem_of_mem_take hy)
        simp [Lit.wf, IntKind.min, IntKind.max, IntKind.signed, IntKind.bits] at h
        omega⟩
  clear hA0 hval0
  simp only [List.append_nil] at hW'
  have hj : J (CMv Try.prog W (Ended W)) ⟨[], 0, .alone⟩ (G (Frame.enter Try.prog 3 #[.int .i64 a, .slice A l.length cap] .normal) []) :=
    j_of_law Try.func3 (c := Try.f3.body.getD .skip) (by rfl) (by kernel_rfl) (wpS_mono (plays_walk a l hlb A cap hrow) fun e a t h => by
      cases e <;> first | exact ⟨h.1, h.2.1, h.2.2.1, _, h.2.2.2, fun w hw => ⟨rfl, Sat.nil hw⟩⟩ | exact h)
  obtain ⟨M, last, o, w', t', r1, r2, r3, v, e, hp, g1, g2, g3, g4⟩ := runs_of_j hj
  refine ⟨M, last, o, w', t', r1, r2, r3, v, e, ⟨?_, ?_⟩, g1, g2, g3, g4⟩
  · obtain ⟨rfl, hk⟩ := hp
    have bel := Ended.below hk
    have hT : DataW.Trod enc Try.prog { w' with os := W.os } 0 (fun b => decide (b < W.heap.size)) true 22 (.slice A l.length cap) d1 p1 :=
      DataW.Trod.of_heap (w := { w' with os := W.os, tape := W.tape }) (w' := { w' with os := W.os }) (by rfl) (Below.trod laidOut (by kernel_rfl) (of_decide_eq_true (by kernel_rfl)) k1 bel lt1)
    exact ⟨_, _, _, [], _, [], hW', trodAll_mk1 (shut_bool Try.underlying4 _), trodAll_mk2 (shut_int Try.underlying3 wa) hT, rfl, kept hk _, fun h => by cases h⟩
  · rw [hp.2.os]; exact ⟨0, rfl⟩

theorem row : Rows.PipePlaysSaid :=
  OpenClaim.holds_of_wide_leaving_time 3 Try.f3 rfl rfl rfl rfl rfl rfl rfl ⟨rfl, rfl, rfl, rfl, rfl⟩ rfl rfl rfl rfl rfl (by kernel_rfl) Try.func3 (by kernel_rfl)
    (of_decide_eq_true (by kernel_rfl)) (by unfold Func.isWrapper; first | (rw [if_pos (by decide +kernel)]; kernel_rfl) | (rw [if_neg (by decide +kernel)]; exact ⟨rfl, rfl⟩))
    (fun os started H enc _ F => lifted os started H enc F)
#print axioms row
end Go.Proofs.Ytdmhgajamepgoaa.RowPipePlays
namespace Go.Proofs.Ytdmhgajamepgoaa
theorem pipePlays_holds : Rows.PipePlaysSaid := RowPipePlays.row
end Go.Proofs.Ytdmhgajamepgoaa
