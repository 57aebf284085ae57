/-
  OWN TEXT. PIPE: THE LAW's RETURN: the outermost frame of goroutine 0 hands its value over: the run ends.
-/
import Derived.Test.YtdmhgajamepgoaaQx
set_option linter.unusedVariables false
set_option linter.unusedSimpArgs false
set_option linter.unusedSectionVars false
namespace Go.Proofs.Ytdmhgajamepgoaa.Q
open Go Go.Conc

theorem stepG_end_main {P : Program} {b : Frame} {a : Act} {todo : List Item} {fn : Func} {w : World} {v : Value} (hn : b.kind = .normal) (hd : a.defers = []) (hf : P.funcs[b.fn]? = some fn) (hi : P.inits.idxOf? b.fn = none)
    (hr : (results fn a.tmps).run P w = .ok v w) (he : (results fn a.tmps).events P w #[] = #[]) :
    stepG P true (G { b.at a todo with mode := .returning } []) w = .ended (.done v) w #[] := by
  simp [G, stepG, unwind, doReturn, Frame.at, hn, hd, hf, hr, he, hi, seen, GStep.after]

/-- A law's body that leaves with a value of Post: the entry is in J. -/
theorem j_of_law {P : Program} {W : World} {Post : Value → World → Prop} {f : FuncId} {fn : Func} {c : Code} {args : Array Value} (hf : P.funcs[f]? = some fn) (hb : fn.body = some c) (hi : P.inits.idxOf? f = none)
    (h : wpS (CMv P W Post) f c (bodyPostS fun a t => t.x = .alone ∧ t.d = 0 ∧ a.defers = [] ∧ ∃ v, ResultsC P fn a.tmps v ∧ ∀ w, Sat W t.sg w → Post v w) { tmps := args ++ Array.replicate (fn.ntmps - args.size) undef, defers := [] } ⟨[], 0, .alone⟩) :
    J (CMv P W Post) ⟨[], 0, .alone⟩ (G (Frame.enter P f args .normal) []) := by
  rw [enter_at args hf hb]
  have hfin : ∀ (a : Act) (t : Tau CX) (todo : List Item), (t.x = .alone ∧ t.d = 0 ∧ a.defers = [] ∧ ∃ v, ResultsC P fn a.tmps v ∧ ∀ w, Sat W t.sg w → Post v w) → J (CMv P W Post) t (G { (base f).at a todo with mode := .returning } []) := by
    rintro a t todo ⟨hx, hd, hdf, v, hr, hp⟩
    exact J.step (cmoves P W Post) (.act rfl (.fin hx hd fun w hw => ⟨v, #[], stepG_end_main rfl hdf hf hi (hr w).1 (hr w).2, by simp, hp w hw⟩))
  refine h (base f) [] [] rfl (by simp [base]) fun e a' t' q => ?_
  cases e with
  | normal => exact J.quiet (cmoves P W Post) rfl (fun _ => stepG_end) (hfin a' t' [] q)
  | ret => exact fun todo => hfin a' t' todo q
  | exit id => exact q.elim
  | goto l => exact q.elim
  | panic ch => exact q.elim
  | outgrown => exact q.elim

end Go.Proofs.Ytdmhgajamepgoaa.Q
