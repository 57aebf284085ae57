/-
  OWN TEXT. PIPE: THE MACHINE, (14): the worker's moves, on: SEND, or be told to stop.
-/
import Derived.Test.YtdmhgajamepgoaaQq
set_option linter.unusedVariables false
set_option linter.unusedSimpArgs false
set_option linter.unusedSectionVars false
namespace Go.Proofs.Ytdmhgajamepgoaa.Q
open Go Go.Conc
open Go.ConcN (sumTo upd sumTo_upd upd_ne upd_same)

section
variable {P : Program} {B : World} {Post : Value → World → Prop} {dead : Nat → Prop} {p : PRec} {k : Nat} {gs gs' : Array Goroutine} {w w' : World} {sl : Option (Nat × Nat)} {t u : Trace} {q q' : Nat → Nat} {ex ex' : Nat → Prop} {r s r' s' : Nat} {c c' : CPh} {oc oc' : Bool} {st sm st' sm' : Int} {sg sg' : List Chunk} {d d' : Nat} {a b g g' gw gw' : Goroutine} {tau tau' : Tau WX}

/-- The send meets the caller, who is parked. -/
theorem worker_meets (h : PC P B dead p k gs w t q (· = k) r s .recv oc st sm sg d g) (hwl : WL P B dead p k gs w t r s .recv oc st sm sg tau gw) (hb : gs[k]? = some b) (hal : Alike b gw) {v zo z z0 : Value} (hph : tau.x.ph = .run false) (hAll : p.All[s]? = some v)
    (hst : ∀ w, Sat B tau.sg w → stepG P false gw w = .comm gw #[scase p.O v zo, rcase p.S z] true .select w #[]) (h0 : gs[0]? = some a) (hae : a = parked g #[rcase p.O z0] (.recv true)) (hrs : r = s)
    (hv : KC P B Post ⟨sg, d, .pump p (r + 1) .recv⟩ (Go.Conc.served g (.tuple #[v, .bool true]))) (hj : J (WMv P B) ⟨tau.sg, tau.d, ⟨tau.x.p, s + 1, .run false⟩⟩ (Go.Conc.served gw (.tuple #[goInt 0, .bool false, z]))) :
    ∃ m' ops, runT P (crowd gs w sl) k = (.next m', ops) ∧ Ends P Post m' (t ++ ops) := by
  have hil : 0 < gs.size := Nat.lt_of_le_of_lt (Nat.zero_le _) h.kl
  have hst' : stepG P (k == 0) b w = .comm gw #[scase p.O v zo, rcase p.S z] true .select w #[] := by rw [k_ne h.k0, hal.step]; exact hst w hwl.sat
  have hoc : oc = false := by rw [hwl.oc, hph]; rfl
  subst hoc
  have hO := h.sh.o
  have hpsS : partners (gs.setIfInBounds k ph) p.S true = [] := h.partnersW fun a ha hca => hca.offers (.inr rfl)
  have hps : partners (gs.setIfInBounds k ph) p.O false = [(0, 0)] := by
    refine (partners_one (g := a) (j := 0) (by rw [Array.getElem?_setIfInBounds_ne h.k0]; exact h0) fun j y hne hy => ?_).trans ?_
    · rcases getElem?_stand gs k j y hy with ⟨_, rfl⟩ | ⟨hjk, hy'⟩
      · exact offersAt_ph _ _
      · exact offers_quits (h.com.leav j y hne hjk hy') _ _
    · rw [hae, offersAt_parked_recv, if_pos rfl]; rfl
  have hrun := crowd_sel_send_meets (sl := sl) hb hst' (k := 0) (by rfl) (fun m c' hm hc' => by
      match m, hm, hc' with
      | 1, _, hc' => simp at hc'; subst hc'; exact ways_recv_none h.sh.s hpsS
      | m + 2, _, hc' => simp at hc') hO (Ne.symm h.k0) (h0.trans (by rw [hae])) hps
  rw [served_recv, show ((0 : Nat) : Int) = 0 from rfl, served_sel] at hrun
  have e0 : ((gs.setIfInBounds 0 (Go.Conc.served g (.tuple #[v, .bool true]))).setIfInBounds k (Go.Conc.served gw (.tuple #[goInt 0, .bool false, z])))[0]? = some (Go.Conc.served g (.tuple #[v, .bool true])) := by
    rw [Array.getElem?_setIfInBounds_ne h.k0, Array.getElem?_setIfInBounds_self_of_lt hil]
  have ek : ((gs.setIfInBounds 0 (Go.Conc.served g (.tuple #[v, .bool true]))).setIfInBounds k (Go.Conc.served gw (.tuple #[goInt 0, .bool false, z])))[k]? = some (Go.Conc.served gw (.tuple #[goInt 0, .bool false, z])) := by
    rw [Array.getElem?_setIfInBounds_self_of_lt (by simpa using h.kl)]
  refine ⟨_, _, hrun, ?_⟩
  have hs1 : s < p.All.length := (List.getElem?_eq_some_iff.1 hAll).1
  have hbuf : ((p.All.take s).drop r).toArray = ((p.All.take (s + 1)).drop (r + 1)).toArray := by rw [buf_empty h.sl hrs, buf_empty (by omega) (by omega)]
  rw [hbuf]
  have hpc := h.comm (gs' := (gs.setIfInBounds 0 (Go.Conc.served g (.tuple #[v, .bool true]))).setIfInBounds k (Go.Conc.served gw (.tuple #[goInt 0, .bool false, z]))) (w' := w.setChan p.O p.cap ((p.All.take (s + 1)).drop (r + 1)).toArray false (s + 1) (r + 1) false) (r' := r + 1) (s' := s + 1) (oc' := false) (g' := Go.Conc.served g (.tuple #[v, .bool true]))
    (by simp) (fun m x h1 h2 hx => by rwa [Array.getElem?_setIfInBounds_ne (fun e => h2 e.symm), Array.getElem?_setIfInBounds_ne (Ne.symm h1)] at hx) ⟨_, e0, .run (Alike.refl _) rfl⟩ (by simp [World.setChan]) rfl rfl (fun b hb => by simp only [World.setChan]; rw [Array.getElem?_setIfInBounds_ne (Ne.symm hb)]) (by simp [World.setChan, h.lts.1]) (by omega) (by omega) compl_recv
  have hwl' := hwl.comm (gs' := (gs.setIfInBounds 0 (Go.Conc.served g (.tuple #[v, .bool true]))).setIfInBounds k (Go.Conc.served gw (.tuple #[goInt 0, .bool false, z]))) (w' := w.setChan p.O p.cap ((p.All.take (s + 1)).drop (r + 1)).toArray false (s + 1) (r + 1) false) (r' := r + 1) (s' := s + 1) (oc' := false) (ph' := .run false) (gw' := Go.Conc.served gw (.tuple #[goInt 0, .bool false, z]))
    ⟨_, ek, .run (Alike.refl _) rfl⟩ rfl (by have := hwl.st; rw [hph] at this; exact this) (fun e => by cases e) (fun e => by cases e) (by simp [World.setChan]) rfl rfl (fun b hb => by simp only [World.setChan]; rw [Array.getElem?_setIfInBounds_ne (Ne.symm hb)]) h.geo.bo
  have hl := h.lts.1
  have hcalm : Calm2 (w.setChan p.O p.cap ((p.All.take (s + 1)).drop (r + 1)).toArray false (s + 1) (r + 1) false).heap.size (MemOp.ofEvents k b.frame.fn b.frame.place #[] ++ #[({ g := k, fn := gw.frame.fn, pos := gw.frame.place, act := .send p.O s } : MemOp), { g := 0, fn := g.frame.fn, pos := g.frame.place, act := .recv p.O r p.cap }, { g := k, fn := gw.frame.fn, pos := gw.frame.place, act := .sendDone p.O s }, { g := 0, fn := g.frame.fn, pos := g.frame.place, act := .recvDone p.O r }]) :=
    ⟨by simp [MemOp.ofEvents, MemAct.touch?], by simp [MemOp.ofEvents, MemAct.low, World.setChan, hl], by simp [MemOp.ofEvents]⟩
  exact hv.2 dead p k _ _ sl _ q _ (r + 1) (s + 1) .recv false st sm rfl (hpc.calm hcalm) (.inl ⟨rfl, _, _, hwl'.calm hpc.com.tr hcalm, hj⟩)

/-- SEND, OR BE TOLD TO STOP. -/
theorem worker_send (h : PC P B dead p k gs w t q (· = k) r s c oc st sm sg d g) (hwl : WL P B dead p k gs w t r s c oc st sm sg tau gw) (hb : gs[k]? = some b) (hal : Alike b gw) {v zo z : Value} (hph : tau.x.ph = .run false) (hAll : p.All[s]? = some v)
    (hst : ∀ w, Sat B tau.sg w → stepG P false gw w = .comm gw #[scase p.O v zo, rcase p.S z] true .select w #[])
    (hno : ∀ a, gs[0]? = some a → ∀ f, offersAt a p.O f = [])
    (h1 : KW P B Post p r c sg d g ⟨tau.sg, tau.d, ⟨tau.x.p, s + 1, .run false⟩⟩ (Go.Conc.served gw (.tuple #[goInt 0, .bool false, z]))) (h2 : p.whole = false → KW P B Post p r c sg d g ⟨tau.sg, tau.d, ⟨tau.x.p, s, .run true⟩⟩ (Go.Conc.served gw (.tuple #[goInt 1, .bool false, z]))) :
    (∃ m' ops, runT P (crowd gs w sl) k = (.next m', ops) ∧ Ends P Post m' (t ++ ops)) ∨
    (c = .recv ∧ ∃ b', runT P (crowd gs w sl) k = (.next (crowd (gs.setIfInBounds k b') w sl), #[]) ∧ WAt P B tau c r b' gw ∧ b'.status = .blocked) := by
  have hst' : stepG P (k == 0) b w = .comm gw #[scase p.O v zo, rcase p.S z] true .select w #[] := by rw [k_ne h.k0, hal.step]; exact hst w hwl.sat
  have hoc : oc = false := by rw [hwl.oc, hph]; rfl
  subst hoc
  have hO := h.sh.o
  have hS := h.sh.s
  have hl := h.lts.1
  have hl2 := h.lts.2.1
  have hs1 : s < p.All.length := (List.getElem?_eq_some_iff.1 hAll).1
  have hpsS : partners (gs.setIfInBounds k ph) p.S true = [] := h.partnersW fun a ha hca => hca.offers (.inr rfl)
  have hps : partners (gs.setIfInBounds k ph) p.O false = [] := h.partnersW fun a ha _ => hno a ha false
  have hcs : ∀ a, gs[0]? = some a → CAt P B p sg r s c false sm a g → CAt P B p sg r (s + 1) c false sm a g := fun a ha hca => by
    cases hca with
    | run h1 h2 => exact .run h1 h2
    | park z0 hae _ _ _ _ =>
      have := hno a ha false
      rw [hae, offersAt_parked_recv, if_pos rfl] at this
      cases this
    | sem h1 h2 h3 h4 => exact .sem h1 h2 h3 h4
  have hroomK : ∀ dd sl' ops, Calm2 w.heap.size ops → Ends P Post (crowd (gs.setIfInBounds k (Go.Conc.served gw (.tuple #[goInt 0, .bool false, z]))) ((w.at dd).setChan p.O p.cap ((p.All.take (s + 1)).drop r).toArray false (s + 1) r false) sl') (t ++ ops) := fun dd sl' ops hcalm =>
    worker_comm (w' := (w.at dd).setChan p.O p.cap ((p.All.take (s + 1)).drop r).toArray false (s + 1) r false) (s' := s + 1) (ph' := .run false) h hwl h1 rfl hph (.inl rfl) hcs (by simp [World.setChan, World.at]) rfl rfl (fun b hb => by simp only [World.setChan, World.at]; rw [Array.getElem?_setIfInBounds_ne (Ne.symm hb)]) (by simp [World.setChan, World.at, hl]) (by have := h.rs; omega) (by omega) (by simpa [World.setChan, World.at] using hcalm)
  have hstopK : c ≠ .recv → ∀ dd sl' ops, Calm2 w.heap.size ops → Ends P Post (crowd (gs.setIfInBounds k (Go.Conc.served gw (.tuple #[goInt 1, .bool false, z]))) (w.at dd) sl') (t ++ ops) := fun hc dd sl' ops hcalm =>
    worker_comm (w' := w.at dd) (s' := s) (ph' := .run true) h hwl (h2 (h.unwhole rfl hc).2) rfl hph (.inr ⟨rfl, hc⟩) (fun _ _ x => x) rfl rfl rfl (fun _ _ => rfl) hO h.rs h.sl hcalm
  have hcalm1 : Calm2 w.heap.size (MemOp.ofEvents k b.frame.fn b.frame.place #[] ++ #[({ g := k, fn := gw.frame.fn, pos := gw.frame.place, act := .send p.O s } : MemOp), { g := k, fn := gw.frame.fn, pos := gw.frame.place, act := .sendDone p.O s }]) :=
    ⟨by simp [MemOp.ofEvents, MemAct.touch?], by simp [MemOp.ofEvents, MemAct.low, hl], by simp [MemOp.ofEvents]⟩
  have hcalm2 : Calm2 w.heap.size (MemOp.ofEvents k b.frame.fn b.frame.place #[] ++ #[({ g := k, fn := gw.frame.fn, pos := gw.frame.place, act := .recvClosed p.S } : MemOp)]) :=
    ⟨by simp [MemOp.ofEvents, MemAct.touch?], by simp [MemOp.ofEvents, MemAct.low, hl2], by simp [MemOp.ofEvents]⟩
  by_cases hroom : ((p.All.take s).drop r).toArray.size < p.cap
  · left
    by_cases hc : c = .recv
    · subst hc
      have hrun := crowd_sel_send_room (sl := sl) hb hst' (k := 0) (by rfl) (fun m c' hm hc' => by
        match m, hm, hc' with
        | 1, _, hc' => simp at hc'; subst hc'; exact ways_recv_none hS hpsS
        | m + 2, _, hc' => simp at hc') hO hroom hps
      rw [show ((0 : Nat) : Int) = 0 from rfl, served_sel, buf_push hAll h.rs] at hrun
      exact ⟨_, _, hrun, hroomK w.drawn sl _ hcalm1⟩
    · have hcl : c.closed = true := (h.unwhole rfl hc).1
      rw [hcl] at hS
      obtain ⟨dd, hrun | hrun⟩ := crowd_sel_both (sl := sl) hb hst' hO hroom hps hS hpsS
      · rw [served_sel, buf_push hAll h.rs] at hrun
        exact ⟨_, _, hrun, hroomK dd sl _ hcalm1⟩
      · rw [served_sel1] at hrun
        exact ⟨_, _, hrun, hstopK hc dd sl _ hcalm2⟩
  · have hfull : p.cap ≤ ((p.All.take s).drop r).toArray.size := Nat.le_of_not_lt hroom
    by_cases hc : c = .recv
    · subst hc
      right
      have hrun := crowd_waits (sl := sl) hb hst' (fun cc hcc => by
        simp at hcc
        rcases hcc with rfl | rfl
        · exact ways_send_none hO hfull hps
        · exact ways_recv_none hS hpsS)
      rw [buf_size h.sl] at hfull
      have hrs := h.rs
      exact ⟨rfl, _, hrun, .park v zo z (by rw [hwl.xp]) hph rfl (by rw [hwl.xp, hwl.xs]; omega) (by rw [hwl.xp, hwl.xs]; exact hAll) (by rw [hwl.xp]; exact hst), rfl⟩
    · left
      have hcl : c.closed = true := (h.unwhole rfl hc).1
      rw [hcl] at hS
      have hrun := crowd_sel_recv_closed (sl := sl) hb hst' (k := 1) (by rfl) (fun m c' hm hc' => by
        match m, hm, hc' with
        | 0, _, hc' => simp at hc'; subst hc'; exact ways_send_none hO hfull hps
        | m + 2, _, hc' => simp at hc') hS hpsS
      rw [show ((1 : Nat) : Int) = 1 from rfl, served_sel1] at hrun
      exact ⟨_, _, hrun, hstopK hc w.drawn sl _ hcalm2⟩
end

end Go.Proofs.Ytdmhgajamepgoaa.Q
