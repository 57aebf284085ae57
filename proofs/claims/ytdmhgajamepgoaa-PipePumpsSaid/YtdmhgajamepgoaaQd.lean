/-
  OWN TEXT. PIPE: THREE LAWS OF THE COMMUNICATION that the library lacks: a select of a send and a receive (1) meets a parked receiver; (2) has room AND finds the other channel closed: the tape picks; (3) a receive from a buffer at which such a select is parked: the parked value slips into the buffer.
-/
import Derived.Test.YtdmhgajamepgoaaQc
import Derived.Conc.CrowdSel
set_option linter.unusedVariables false
set_option linter.unusedSimpArgs false
set_option linter.unusedSectionVars false
namespace Go.Proofs.Ytdmhgajamepgoaa.Q
open Go Go.Conc

section
variable {P : Program} {gs : Array Goroutine} {w w₁ : World} {sl : Option (Nat × Nat)} {i j k : Nat} {g g₂ gj : Goroutine} {es : Array Event} {cases cs : Array CommCase} {shape shj : CommShape} {blocking : Bool}
  {c cap s r : Nat} {buf : Array Value} {closed tm : Bool} {v z zj : Value}

/-- (1) -/
theorem crowd_sel_send_meets (hi : gs[i]? = some g) (h : stepG P (i == 0) g w = .comm g₂ cases blocking shape w₁ es) (hk : cases[k]? = some (scase c v z))
    (ho : ∀ (m : Nat) (c' : CommCase), m ≠ k → cases[m]? = some c' → NoWays w₁ (gs.setIfInBounds i ph) c')
    (hc : w₁.heap[c]? = some (.chan cap buf false s r tm)) (hij : j ≠ i) (hj : gs[j]? = some (parked gj #[rcase c zj] shj)) (hp : partners (gs.setIfInBounds i ph) c false = [(j, 0)]) :
    runT P (crowd gs w sl) i = (.next (crowd ((gs.setIfInBounds j (gj.finishComm P #[rcase c zj] shj 0 v true)).setIfInBounds i (g₂.finishComm P cases shape k undef false)) (w₁.setChan c cap buf false (s + 1) (r + 1) tm) sl),
      MemOp.ofEvents i g.frame.fn g.frame.place es ++ #[{ g := i, fn := g₂.frame.fn, pos := g₂.frame.place, act := .send c s }, { g := j, fn := gj.frame.fn, pos := gj.frame.place, act := .recv c r cap },
        { g := i, fn := g₂.frame.fn, pos := g₂.frame.place, act := .sendDone c s }, { g := j, fn := gj.frame.fn, pos := gj.frame.place, act := .recvDone c r }]) := by
  have hw : ways w₁ (gs.setIfInBounds i ph) (scase c v z) = [.partner j 0] := by simp [ways, scase, hc, hp]
  have hj' := stand_get (i := i) hij hj
  have hfp := finishPartner_at P (gs.setIfInBounds i ph) hj' (cs := #[rcase c zj]) (sh := shj) rfl 0 v
  have hgd : (gs.setIfInBounds i ph).getD j default = parked gj #[rcase c zj] shj := by rw [Array.getD_eq_getD_getElem?, hj']; rfl
  rw [runT_crowd_comm hi h]
  unfold communicate
  simp only [ready_one hk (by rw [hw]; simp) ho, hw]
  rw [if_neg]
  · simp [choose, Sem.run, Question.forced, bind, Sem.bind, pure, scase, crowd, hc, hfp, hgd, set_stand2, finishComm_parked, rcase, parked, World.setChan]
    rfl
  · rw [Bool.not_eq_true]; exact any_ill (made_of_one hk (made_send v z hc) ho)

/-- (2) -/
theorem crowd_sel_both {c2 cap2 s2 r2 : Nat} {z2 : Value} (hi : gs[i]? = some g) (h : stepG P (i == 0) g w = .comm g₂ #[scase c v z, rcase c2 z2] blocking shape w₁ es)
    (hc : w₁.heap[c]? = some (.chan cap buf false s r tm)) (hroom : buf.size < cap) (hp : partners (gs.setIfInBounds i ph) c false = [])
    (hc2 : w₁.heap[c2]? = some (.chan cap2 #[] true s2 r2 tm)) (hp2 : partners (gs.setIfInBounds i ph) c2 true = []) :
    ∃ d, (runT P (crowd gs w sl) i = (.next (crowd (gs.setIfInBounds i (g₂.finishComm P #[scase c v z, rcase c2 z2] shape 0 undef false)) ((w₁.at d).setChan c cap (buf.push v) false (s + 1) r tm) sl),
        MemOp.ofEvents i g.frame.fn g.frame.place es ++ #[{ g := i, fn := g₂.frame.fn, pos := g₂.frame.place, act := .send c s }, { g := i, fn := g₂.frame.fn, pos := g₂.frame.place, act := .sendDone c s }])) ∨
      (runT P (crowd gs w sl) i = (.next (crowd (gs.setIfInBounds i (g₂.finishComm P #[scase c v z, rcase c2 z2] shape 1 z2 false)) (w₁.at d) sl),
        MemOp.ofEvents i g.frame.fn g.frame.place es ++ #[{ g := i, fn := g₂.frame.fn, pos := g₂.frame.place, act := .recvClosed c2 }])) := by
  have hw : ways w₁ (gs.setIfInBounds i ph) (scase c v z) = [.buffer] := by simp [ways, scase, hc, hp, hroom]
  have hw2 : ways w₁ (gs.setIfInBounds i ph) (rcase c2 z2) = [.closed] := by simp [ways, rcase, hc2, hp2]
  have hill : (#[scase c v z, rcase c2 z2].any (illMade w₁)) = false := any_ill fun cc hcc => by
    simp at hcc
    rcases hcc with rfl | rfl
    · exact made_send v z hc
    · exact made_recv z2 hc2
  have hc' : (World.drew w₁).heap[c]? = some (.chan cap buf false s r tm) := hc
  refine ⟨w₁.drawn + 1, ?_⟩
  rw [runT_crowd_comm hi h]
  have hready : ((#[scase c v z, rcase c2 z2].zipIdx.toList.map fun (c, k) => (k, c, ways w₁ (gs.setIfInBounds i ph) c)).filter fun (_, _, ws) => !ws.isEmpty) = [(0, scase c v z, [.buffer]), (1, rcase c2 z2, [.closed])] := by
    simp [hw, hw2]
  unfold communicate
  simp only [hready]
  rw [if_neg (by rw [Bool.not_eq_true]; exact hill)]
  have hlt := Nat.mod_lt (w₁.tape w₁.drawn (.select 2)) (by decide : 2 > 0)
  rcases Nat.lt_or_ge ((w₁.tape w₁.drawn (.select 2)) % 2) 1 with h0 | h1
  · have e : (w₁.tape w₁.drawn (.select 2)) % 2 = 0 := by omega
    left
    simp [choose, Sem.run, Question.forced, Question.cut, bind, Sem.bind, pure, e, scase, hc', World.setChan, crowd, World.at]
  · have e : (w₁.tape w₁.drawn (.select 2)) % 2 = 1 := by omega
    right
    simp [choose, Sem.run, Question.forced, Question.cut, bind, Sem.bind, pure, e, rcase, hc2, crowd, World.at]

/-- (3) -/
theorem crowd_recv_refill (hi : gs[i]? = some g) (h : stepG P (i == 0) g w = .comm g₂ #[rcase c z] blocking shape w₁ es) (hc : w₁.heap[c]? = some (.chan cap buf closed s r tm)) (hsome : 0 < buf.size)
    (hij : j ≠ i) (hj : gs[j]? = some (parked gj cs shj)) (hk : cs[k]? = some (scase c v zj)) (hp : partners (gs.setIfInBounds i ph) c true = [(j, k)]) :
    runT P (crowd gs w sl) i = (.next (crowd ((gs.setIfInBounds j (gj.finishComm P cs shj k undef false)).setIfInBounds i (g₂.finishComm P #[rcase c z] shape 0 (buf.getD 0 undef) true)) (w₁.setChan c cap ((buf.extract 1 buf.size).push v) closed (s + 1) (r + 1) tm) sl),
      MemOp.ofEvents i g.frame.fn g.frame.place es ++ #[{ g := i, fn := g₂.frame.fn, pos := g₂.frame.place, act := .recv c r cap }, { g := i, fn := g₂.frame.fn, pos := g₂.frame.place, act := .recvDone c r },
        { g := j, fn := gj.frame.fn, pos := gj.frame.place, act := .send c s }, { g := j, fn := gj.frame.fn, pos := gj.frame.place, act := .sendDone c s }]) := by
  have hj' := stand_get (i := i) hij hj
  have hfp := finishPartner_at P (gs.setIfInBounds i ph) hj' (cs := cs) (sh := shj) rfl k undef
  have hgd : (gs.setIfInBounds i ph).getD j default = parked gj cs shj := by rw [Array.getD_eq_getD_getElem?, hj']; rfl
  have hov : offeredValue (gs.setIfInBounds i ph) j k = v := by simp [offeredValue, hj', parked, hk, scase]
  rw [runT_crowd_comm hi h]
  simp [communicate, ways, rcase, hc, hsome, hp, choose, Sem.run, Question.forced, bind, Sem.bind, pure, World.setChan, crowd, hfp, hgd, hov, set_stand2, finishComm_parked, hk, scase, parked]
  rfl
end

/-! ### who offers what -/
theorem offersAt_sel_send {g : Goroutine} {O S : Nat} {v zo z : Value} {sh : CommShape} (hne : O ≠ S) : offersAt (parked g #[scase O v zo, rcase S z] sh) O true = [0] := by
  simp [offersAt, parked, scase, rcase]
theorem offersAt_sel_off {g : Goroutine} {O S c : Nat} {v zo z : Value} {sh : CommShape} (h1 : O ≠ c) : offersAt (parked g #[scase O v zo, rcase S z] sh) c true = [] := by
  simp [offersAt, parked, scase, rcase, h1]
theorem offersAt_sel_recv {g : Goroutine} {O S c : Nat} {v zo z : Value} {sh : CommShape} (h1 : S ≠ c) : offersAt (parked g #[scase O v zo, rcase S z] sh) c false = [] := by
  simp [offersAt, parked, scase, rcase, h1]

theorem again_sel_open {g : Goroutine} {w : World} {O S cap s r cap2 s2 r2 : Nat} {buf buf2 : Array Value} {tm tm2 : Bool} {v zo z : Value} {sh : CommShape}
    (h1 : w.heap[O]? = some (.chan cap buf false s r tm)) (h2 : w.heap[S]? = some (.chan cap2 buf2 false s2 r2 tm2)) : (parked g #[scase O v zo, rcase S z] sh).again w = parked g #[scase O v zo, rcase S z] sh := by
  simp [Goroutine.again, parked, scase, rcase, h1, h2]
theorem again_sel_shut {g : Goroutine} {w : World} {O S cap2 s2 r2 : Nat} {buf2 : Array Value} {tm2 : Bool} {v zo z : Value} {sh : CommShape}
    (h2 : w.heap[S]? = some (.chan cap2 buf2 true s2 r2 tm2)) : (parked g #[scase O v zo, rcase S z] sh).again w = { parked g #[scase O v zo, rcase S z] sh with status := .running } := by
  simp [Goroutine.again, parked, scase, rcase, h2]

end Go.Proofs.Ytdmhgajamepgoaa.Q
