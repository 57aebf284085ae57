/-
  OWN TEXT. PIPE: THE MACHINE, (9): the caller's moves, on: receive, close, a channel of its own, the semaphore, the acquire.
-/
import Derived.Test.YtdmhgajamepgoaaQl
set_option linter.unusedVariables false
set_option linter.unusedSimpArgs false
set_option linter.unusedSectionVars false
namespace Go.Proofs.Ytdmhgajamepgoaa.Q
open Go Go.Conc
open Go.ConcN (sumTo upd sumTo_upd upd_ne upd_same)

section
variable {P : Program} {B : World} {Post : Value → World → Prop} {dead : Nat → Prop} {p : PRec} {k : Nat} {gs gs' : Array Goroutine} {w w' : World} {sl : Option (Nat × Nat)} {t u : Trace} {q q' : Nat → Nat} {ex ex' : Nat → Prop} {r s r' s' : Nat} {c c' : CPh} {oc oc' : Bool} {st sm st' sm' : Int} {sg sg' : List Chunk} {d d' : Nat} {a g g' gw gw' : Goroutine} {tau tau' : Tau WX}

theorem getElem?_set2 {x y : Goroutine} (hk : k < gs.size) (h0 : 0 < gs.size) (hk0 : k ≠ 0) :
    ((gs.setIfInBounds k x).setIfInBounds 0 y)[0]? = some y ∧ ((gs.setIfInBounds k x).setIfInBounds 0 y)[k]? = some x ∧ ∀ m, m ≠ 0 → m ≠ k → ((gs.setIfInBounds k x).setIfInBounds 0 y)[m]? = gs[m]? := by
  refine ⟨by rw [Array.getElem?_setIfInBounds_self_of_lt (by simpa using h0)], ?_, fun m h1 h2 => ?_⟩
  · rw [Array.getElem?_setIfInBounds_ne (Ne.symm hk0), Array.getElem?_setIfInBounds_self_of_lt hk]
  · rw [Array.getElem?_setIfInBounds_ne (Ne.symm h1), Array.getElem?_setIfInBounds_ne (Ne.symm h2)]

/-- THE CALLER RECEIVES, A SENDER BEING PARKED: the parked value slips into the buffer. -/
theorem caller_refill (h : PC P B dead p k gs w t q (· = k) r s .recv oc st sm sg d g) (hwl : WL P B dead p k gs w t r s .recv oc st sm sg tau gw) (hj : J (WMv P B) tau gw) (h0 : gs[0]? = some a) (hal : Alike a g) {z v zo z' : Value} {b : Goroutine}
    (hst : ∀ w, Sat B sg w → stepG P true g w = .comm g #[rcase p.O z] true (.recv true) w #[])
    (hb : gs[k]? = some b) (hbe : b = parked gw #[scase p.O v zo, rcase p.S z'] .select) (hph : tau.x.ph = .run false) (hcap : p.cap + r ≤ s) (hAll : p.All[s]? = some v)
    (hsend : ∀ w, Sat B tau.sg w → stepG P false gw w = .comm gw #[scase p.O v zo, rcase p.S z'] true .select w #[])
    (hv : ∀ v, p.All[r]? = some v → KC P B Post ⟨sg, d, .pump p (r + 1) .recv⟩ (Go.Conc.served g (.tuple #[v, .bool true]))) :
    ∃ m' ops, runT P (crowd gs w sl) 0 = (.next m', ops) ∧ Ends P Post m' (t ++ ops) := by
  have hil : 0 < gs.size := Nat.lt_of_le_of_lt (Nat.zero_le _) h.kl
  have hst' : stepG P (0 == 0) a w = .comm g #[rcase p.O z] true (.recv true) w #[] := by rw [hal.step]; exact hst w h.sat
  have hoc : oc = false := by rw [hwl.oc, hph]; rfl
  subst hoc
  have hrs : r < s := by have := h.geo.cap; omega
  obtain ⟨vr, hvr⟩ : ∃ vr, p.All[r]? = some vr := ⟨_, List.getElem?_eq_getElem (by have := h.sl; omega)⟩
  have hps : partners (gs.setIfInBounds 0 ph) p.O true = [(k, 0)] := by
    refine (partners_one (g := b) (j := k) (by rw [Array.getElem?_setIfInBounds_ne (Ne.symm h.k0)]; exact hb) fun j y hne hy => ?_).trans ?_
    · rcases getElem?_stand gs 0 j y hy with ⟨_, rfl⟩ | ⟨hj0, hy'⟩
      · exact offersAt_ph _ _
      · exact offers_quits (h.com.leav j y hj0 hne hy') _ _
    · rw [hbe, offersAt_sel_send h.geo.os]; rfl
  have hrun := crowd_recv_refill (sl := sl) h0 hst' h.sh.o (by rw [buf_size h.sl]; omega) h.k0 (hb.trans (by rw [hbe])) (k := 0) (v := v) (zj := zo) (by rfl) hps
  rw [served_recv, show ((0 : Nat) : Int) = 0 from rfl, served_sel, buf_head hvr hrs, buf_tail, buf_push hAll hrs] at hrun
  obtain ⟨_, _, hjs, _⟩ := send_of (z := z') hph (J.out (wmoves P B) hj) hwl.sat (by rw [hwl.xp]; exact h.sh.o) (by rw [hwl.xp]; exact hsend)
  obtain ⟨e0, ek, em⟩ := getElem?_set2 (gs := gs) (x := Go.Conc.served gw (.tuple #[goInt 0, .bool false, z'])) (y := Go.Conc.served g (.tuple #[vr, .bool true])) h.kl hil h.k0
  refine ⟨_, _, hrun, ?_⟩
  have hs1 : s < p.All.length := (List.getElem?_eq_some_iff.1 hAll).1
  have hpc := h.comm (gs' := (gs.setIfInBounds k (Go.Conc.served gw (.tuple #[goInt 0, .bool false, z']))).setIfInBounds 0 (Go.Conc.served g (.tuple #[vr, .bool true]))) (w' := w.setChan p.O p.cap ((p.All.take (s + 1)).drop (r + 1)).toArray false (s + 1) (r + 1) false) (r' := r + 1) (s' := s + 1) (oc' := false) (g' := Go.Conc.served g (.tuple #[vr, .bool true]))
    (by simp) (fun m x h1 h2 hx => by rwa [em m h1 h2] at hx) ⟨_, e0, .run (Alike.refl _) rfl⟩ (by simp [World.setChan]) rfl rfl (fun b hb => by simp only [World.setChan]; rw [Array.getElem?_setIfInBounds_ne (Ne.symm hb)]) (by simp [World.setChan, h.lts.1]) (by omega) (by omega) compl_recv
  have hwl' := hwl.comm (gs' := (gs.setIfInBounds k (Go.Conc.served gw (.tuple #[goInt 0, .bool false, z']))).setIfInBounds 0 (Go.Conc.served g (.tuple #[vr, .bool true]))) (w' := w.setChan p.O p.cap ((p.All.take (s + 1)).drop (r + 1)).toArray false (s + 1) (r + 1) false) (r' := r + 1) (s' := s + 1) (oc' := false) (ph' := .run false) (gw' := Go.Conc.served gw (.tuple #[goInt 0, .bool false, z']))
    ⟨_, ek, .run (Alike.refl _) rfl⟩ rfl (by have := hwl.st; rw [hph] at this; exact this) (fun e => by cases e) (fun e => by cases e) (by simp [World.setChan]) rfl rfl (fun b hb => by simp only [World.setChan]; rw [Array.getElem?_setIfInBounds_ne (Ne.symm hb)]) h.geo.bo
  have hcalm : Calm2 (w.setChan p.O p.cap ((p.All.take (s + 1)).drop (r + 1)).toArray false (s + 1) (r + 1) false).heap.size (MemOp.ofEvents 0 a.frame.fn a.frame.place #[] ++ #[({ g := 0, fn := g.frame.fn, pos := g.frame.place, act := .recv p.O r p.cap } : MemOp), { g := 0, fn := g.frame.fn, pos := g.frame.place, act := .recvDone p.O r }, { g := k, fn := gw.frame.fn, pos := gw.frame.place, act := .send p.O s }, { g := k, fn := gw.frame.fn, pos := gw.frame.place, act := .sendDone p.O s }]) := by
    have := h.lts.1
    exact ⟨by simp [MemOp.ofEvents, MemAct.touch?], by simp [MemOp.ofEvents, MemAct.low, World.setChan, this], by simp [MemOp.ofEvents]⟩
  rw [hwl.xs] at hjs
  exact (hv vr hvr).2 dead p k _ _ sl _ q _ (r + 1) (s + 1) .recv false st sm rfl (hpc.calm hcalm) (.inl ⟨rfl, _, _, hwl'.calm hpc.com.tr hcalm, hjs⟩)

theorem PC.toOver (h : PC P B dead p k gs w t q ex r s .recv true st sm sg d g) (hcal : ∃ a, gs[0]? = some a ∧ Alike a g ∧ a.status = .running) : PC P B dead p k gs w t q ex r s .over true st sm sg d g :=
  ⟨h.com, h.k0, h.kl, let ⟨a, h1, h2, h3⟩ := hcal; ⟨a, h1, .run h2 h3⟩, h.deaf, h.sat, h.sep, h.geo, h.sh, h.rs, h.sl, ⟨fun _ _ => h.compl.1 rfl rfl, fun _ => rfl⟩, h.kn⟩

/-- THE CALLER RECEIVES, nobody being parked at O: it goes on, or waits. -/
theorem caller_recv (h : PC P B dead p k gs w t q ex r s .recv oc st sm sg d g) (hr : Rest P B dead p k gs w t ex r s .recv oc st sm sg) (h0 : gs[0]? = some a) (hal : Alike a g) {z : Value}
    (hst : ∀ w, Sat B sg w → stepG P true g w = .comm g #[rcase p.O z] true (.recv true) w #[])
    (hno : ∀ y, gs[k]? = some y → ex k → y.status = .running)
    (hv : ∀ v, p.All[r]? = some v → KC P B Post ⟨sg, d, .pump p (r + 1) .recv⟩ (Go.Conc.served g (.tuple #[v, .bool true]))) (hz : r = p.All.length → KC P B Post ⟨sg, d, .pump p r .over⟩ (Go.Conc.served g (.tuple #[z, .bool false]))) :
    (∃ m' ops, runT P (crowd gs w sl) 0 = (.next m', ops) ∧ Ends P Post m' (t ++ ops)) ∨
    (∃ a', runT P (crowd gs w sl) 0 = (.next (crowd (gs.setIfInBounds 0 a') w sl), #[]) ∧ CAt P B p sg r s .recv oc sm a' g ∧ a'.status = .blocked) := by
  have hil : 0 < gs.size := Nat.lt_of_le_of_lt (Nat.zero_le _) h.kl
  have hst' : stepG P (0 == 0) a w = .comm g #[rcase p.O z] true (.recv true) w #[] := by rw [hal.step]; exact hst w h.sat
  have hps : partners (gs.setIfInBounds 0 ph) p.O true = [] := h.partners hr.exk fun y hy he => offersAt_of_not_blocked (by rw [hno y hy he]; simp) _ _
  have hset : ∀ x : Goroutine, (gs.setIfInBounds 0 x)[0]? = some x ∧ ∀ m, m ≠ 0 → (gs.setIfInBounds 0 x)[m]? = gs[m]? := fun x => ⟨by rw [Array.getElem?_setIfInBounds_self_of_lt hil], fun m hm => by rw [Array.getElem?_setIfInBounds_ne (Ne.symm hm)]⟩
  rcases Nat.lt_or_ge r s with hrs | hrs
  · -- from the buffer
    left
    obtain ⟨vr, hvr⟩ : ∃ vr, p.All[r]? = some vr := ⟨_, List.getElem?_eq_getElem (by have := h.sl; omega)⟩
    have hrun := crowd_recv_buf (sl := sl) h0 hst' h.sh.o (by rw [buf_size h.sl]; omega) hps
    rw [served_recv, buf_head hvr hrs, buf_tail] at hrun
    refine ⟨_, _, hrun, ?_⟩
    obtain ⟨e0, em⟩ := hset (Go.Conc.served g (.tuple #[vr, .bool true]))
    have hpc := h.comm (gs' := gs.setIfInBounds 0 (Go.Conc.served g (.tuple #[vr, .bool true]))) (w' := w.setChan p.O p.cap ((p.All.take s).drop (r + 1)).toArray oc s (r + 1) false) (r' := r + 1) (s' := s) (oc' := oc) (g' := Go.Conc.served g (.tuple #[vr, .bool true]))
      (by simp) (fun m x h1 h2 hx => by rwa [em m h1] at hx) ⟨_, e0, .run (Alike.refl _) rfl⟩ (by simp [World.setChan]) rfl rfl (fun b hb => by simp only [World.setChan]; rw [Array.getElem?_setIfInBounds_ne (Ne.symm hb)]) (by simp [World.setChan, h.lts.1]) (by omega) h.sl h.compl
    have hcalm : Calm2 (w.setChan p.O p.cap ((p.All.take s).drop (r + 1)).toArray oc s (r + 1) false).heap.size (MemOp.ofEvents 0 a.frame.fn a.frame.place #[] ++ #[({ g := 0, fn := g.frame.fn, pos := g.frame.place, act := .recv p.O r p.cap } : MemOp), { g := 0, fn := g.frame.fn, pos := g.frame.place, act := .recvDone p.O r }]) := by
      have := h.lts.1
      exact ⟨by simp [MemOp.ofEvents, MemAct.touch?], by simp [MemOp.ofEvents, MemAct.low, World.setChan, this], by simp [MemOp.ofEvents]⟩
    refine (hv vr hvr).2 dead p k _ _ sl _ q ex (r + 1) s .recv oc st sm rfl (hpc.calm hcalm) ?_
    rcases hr with ⟨he, tau, gw, hwl, hj⟩ | ⟨he, hwg⟩
    · obtain ⟨b, hb, hwa⟩ := hwl.wor
      have hbr := hno b hb (by rw [he])
      have hwl' := hwl.comm (gs' := gs.setIfInBounds 0 (Go.Conc.served g (.tuple #[vr, .bool true]))) (w' := w.setChan p.O p.cap ((p.All.take s).drop (r + 1)).toArray oc s (r + 1) false) (r' := r + 1) (s' := s) (oc' := oc) (ph' := tau.x.ph) (gw' := gw)
        ⟨b, by rw [em k h.k0]; exact hb, .run hwa.alike hbr⟩ hwl.oc hwl.st hwl.stopped (fun _ => ⟨rfl, rfl⟩) (by simp [World.setChan]) rfl rfl (fun b hb => by simp only [World.setChan]; rw [Array.getElem?_setIfInBounds_ne (Ne.symm hb)]) h.geo.bo
      refine .inl ⟨he, _, _, hwl'.calm hpc.com.tr hcalm, ?_⟩
      have : (⟨tau.sg, tau.d, ⟨tau.x.p, s, tau.x.ph⟩⟩ : Tau WX) = tau := by rw [← hwl.xs]
      rw [this]; exact hj
    · exact .inr ⟨he, (hwg.comm (w' := w.setChan p.O p.cap ((p.All.take s).drop (r + 1)).toArray oc s (r + 1) false) (fun b hb => by simp only [World.setChan]; rw [Array.getElem?_setIfInBounds_ne (Ne.symm hb)])).oc, hwg.st, (hwg.comm (w' := w.setChan p.O p.cap ((p.All.take s).drop (r + 1)).toArray oc s (r + 1) false) (fun b hb => by simp only [World.setChan]; rw [Array.getElem?_setIfInBounds_ne (Ne.symm hb)])).left, hwg.rel.calm hcalm⟩
  · have hrs' : r = s := Nat.le_antisymm h.rs hrs
    have hO := h.sh.o
    rw [buf_empty h.sl hrs'] at hO
    cases hoc : oc with
    | true =>
      -- closed
      left
      subst hoc
      have hs := h.compl.1 rfl rfl
      have hrun := crowd_recv_closed (sl := sl) h0 hst' hO hps
      rw [served_recv] at hrun
      refine ⟨_, _, hrun, ?_⟩
      obtain ⟨e0, em⟩ := hset (Go.Conc.served g (.tuple #[z, .bool false]))
      have hpc := h.comm (gs' := gs.setIfInBounds 0 (Go.Conc.served g (.tuple #[z, .bool false]))) (w' := w) (r' := r) (s' := s) (oc' := true) (g' := Go.Conc.served g (.tuple #[z, .bool false]))
        (by simp) (fun m x h1 h2 hx => by rwa [em m h1] at hx) ⟨_, e0, .run (Alike.refl _) rfl⟩ rfl rfl rfl (fun b hb => rfl) h.sh.o h.rs h.sl h.compl
      have hcalm : Calm2 w.heap.size (MemOp.ofEvents 0 a.frame.fn a.frame.place #[] ++ #[({ g := 0, fn := g.frame.fn, pos := g.frame.place, act := .recvClosed p.O } : MemOp)]) := by
        have := h.lts.1
        exact ⟨by simp [MemOp.ofEvents, MemAct.touch?], by simp [MemOp.ofEvents, MemAct.low, this], by simp [MemOp.ofEvents]⟩
      refine (hz (hrs'.trans hs)).2 dead p k _ _ sl _ q ex r s .over true st sm rfl ((hpc.toOver ⟨_, e0, Alike.refl _, rfl⟩).calm hcalm) (Rest.calm ?_ hpc.com.tr hcalm)
      rcases hr with ⟨he, tau, gw, hwl, hj⟩ | ⟨he, hwg⟩
      · obtain ⟨b, hb, hwa⟩ := hwl.wor
        have hcd : tau.x.ph.closed = true := hwl.oc.symm
        refine .inl ⟨he, tau, gw, ⟨⟨b, by rw [em k h.k0]; exact hb, ?_⟩, hwl.xp, hwl.xs, hwl.oc, ?_, hwl.deaf, hwl.sat, hwl.sep, hwl.dis, fun _ e => (by cases e), hwl.kn, hwl.left⟩, hj⟩
        · cases hwa with
          | run h1 h2 => exact .run h1 h2
          | park v zo z' _ e _ _ _ _ => rw [e] at hcd; cases hcd
        · have := hwl.st
          cases hph : tau.x.ph <;> rw [hph] at this <;> exact this
      · exact .inr ⟨he, hwg.oc, hwg.st, hwg.left, hwg.rel⟩
    | false =>
      subst hoc
      right
      have hrun := crowd_waits (sl := sl) h0 hst' (fun cc hcc => by simp at hcc; subst hcc; exact ways_recv_none hO hps)
      exact ⟨_, hrun, .park z rfl rfl rfl hrs' hst, rfl⟩
end

end Go.Proofs.Ytdmhgajamepgoaa.Q
