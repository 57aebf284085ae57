/- What may not be asked of Pump is refused, and nothing is worked on: the law marlinelaw25.PipeArgs answers true for every input, on every schedule, without a data race. No condition. -/
import Derived.Test.YtdmhgajamepgoaaRows
import Derived.Test.YtdmhgajamepgoaaRv
import Derived.Conc.HoldsTime
import Derived.ChangeOld
set_option linter.unusedVariables false
set_option linter.unusedSimpArgs false
set_option linter.unusedSectionVars false
namespace Go.Proofs.Ytdmhgajamepgoaa.RowPipeArgs
open Go Go.ChangeShapes Go.WideShapes Go.ChangeAt Go.RowKit Go.Conc Go.ConcM Go.Proofs.Ytdmhgajamepgoaa.Q

theorem own : ownKnob Try.prog.godebug = none := by kernel_rfl

def Ended (W : World) (v : Value) (w : World) : Prop := v = .bool true ∧ Sat W [] w
theorem Ended.below {W w' : World} (h : Sat W [] w') : Below W.heap.size W { w' with os := W.os, tape := W.tape } := ⟨rfl, rfl, h.out, h.size, h.low⟩
theorem Sat.nil {B : World} {s : List Chunk} {w : World} (h : Sat B s w) : Sat B [] w := ⟨h.os, h.out, h.size, h.low, by simp, by simp, by simp⟩

theorem kept {W w' : World} (h : Sat W [] w') (may : MemPlace → Prop) : W.keptBut { w' with os := W.os } may := by
  refine ⟨rfl, h.out, fun i hi => ?_⟩
  have e : ({ w' with os := W.os } : World).heap[i]? = W.heap[i]? := h.low i hi
  rw [e]
  split <;> simp_all

set_option maxRecDepth 100000 in
theorem lifted (os : Os) (started : os.Started) (H : Type) (enc : TypeId × Value → H) (F : Stop.Interp) :
    ReturnsInLeavingWide Rows.pipeArgsRow.assume Try.checked os 6 .any (Rows.pipeArgsSpec.pre6 enc Try.prog Try.f6 Rows.pipeArgsRow.domain false) ((OpenSpec.ofChange Rows.pipeArgsSpec).postWith enc Try.prog Try.f6 F (outsideKept [.timePasses]) false true false) := by
  refine returnsInLeavingWide_of_change_time (C := Try.checked) own started Try.func6
    (ChangeSpec.witness6c (enc := enc) (C := Try.checked) ⟨#[], #[.int .i64 0, .int .i64 0], []⟩ 8 (by kernel_rfl) (by kernel_rfl) (by kernel_rfl) (by kernel_rfl)) ?_
  intro W base args ds gs before hval0 hW _ _ _
  have hval : ∀ (j : Nat) t v, Try.f6.params[j]? = some t → args[j]? = some v → Value.okWide Try.prog W .any base t v := hval0
  have hW' := hW
  obtain ⟨p, q, hA0, hV, rfl, _, _⟩ := hW
  have hA : DataW.TrodAll enc Try.prog W 0 (fun _ => true) true Try.f6.params.toList args.toList ds p := hA0
  rw [Try.params6] at hA hval
  obtain ⟨v0, v1, d0, d1, p0, p1, rfl, rfl, rfl, h0, h1⟩ := trodAll_two hA
  obtain ⟨rfl, rfl⟩ := trodVars_none hV
  obtain ⟨a, rfl, rfl, rfl, wa⟩ := open_int Try.underlying3 (hval 0 3 v0 rfl rfl) h0
  obtain ⟨b, rfl, rfl, rfl, wb⟩ := open_int Try.underlying3 (hval 1 3 v1 rfl rfl) h1
  clear hA0 hval0
  simp only [List.append_nil] at hW'
  have hj : J (CMv Try.prog W (Ended W)) ⟨[], 0, .alone⟩ (G (Frame.enter Try.prog 6 #[.int .i64 a, .int .i64 b] .normal) []) :=
    j_of_law Try.func6 (c := Try.f6.body.getD .skip) (by rfl) (by kernel_rfl) (wpS_mono (args_walk a b) fun e a t h => by
      cases e <;> first | exact ⟨h.1, h.2.1, h.2.2.1, _, h.2.2.2, fun w hw => ⟨rfl, Sat.nil hw⟩⟩ | exact h)
  obtain ⟨M, last, o, w', t', r1, r2, r3, v, e, hp, g1, g2, g3, g4⟩ := runs_of_j hj
  refine ⟨M, last, o, w', t', r1, r2, r3, v, e, ⟨?_, ?_⟩, g1, g2, g3, g4⟩
  · obtain ⟨rfl, hk⟩ := hp
    exact ⟨_, _, _, [], [], [], hW', trodAll_mk1 (shut_bool Try.underlying4 _), trodAll_mk2 (shut_int Try.underlying3 wa) (shut_int Try.underlying3 wb), rfl, kept hk _, fun h => by cases h⟩
  · rw [hp.2.os]; exact ⟨0, rfl⟩

theorem row : Rows.PipeArgsSaid :=
  OpenClaim.holds_of_wide_leaving_time 6 Try.f6 rfl rfl rfl rfl rfl rfl rfl ⟨rfl, rfl, rfl, rfl, rfl⟩ rfl rfl rfl rfl rfl (by kernel_rfl) Try.func6 (by kernel_rfl)
    (of_decide_eq_true (by kernel_rfl)) (by unfold Func.isWrapper; first | (rw [if_pos (by decide +kernel)]; kernel_rfl) | (rw [if_neg (by decide +kernel)]; exact ⟨rfl, rfl⟩))
    (fun os started H enc _ F => lifted os started H enc F)
#print axioms row
end Go.Proofs.Ytdmhgajamepgoaa.RowPipeArgs
namespace Go.Proofs.Ytdmhgajamepgoaa
theorem pipeArgs_holds : Rows.PipeArgsSaid := RowPipeArgs.row
end Go.Proofs.Ytdmhgajamepgoaa
