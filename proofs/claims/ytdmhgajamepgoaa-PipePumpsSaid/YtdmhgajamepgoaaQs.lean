/-
  OWN TEXT. PIPE: THE MACHINE, (15): the worker's moves, on: close, release, the group; ALL of them.
-/
import Derived.Test.YtdmhgajamepgoaaQr
set_option linter.unusedVariables false
set_option linter.unusedSimpArgs false
set_option linter.unusedSectionVars false
namespace Go.Proofs.Ytdmhgajamepgoaa.Q
open Go Go.Conc
open Go.ConcN (sumTo upd sumTo_upd upd_ne upd_same)

section
variable {P : Program} {B : World} {Post : Value → World → Prop} {dead : Nat → Prop} {p : PRec} {k : Nat} {gs gs' : Array Goroutine} {w w' : World} {sl : Option (Nat × Nat)} {t u : Trace} {q q' : Nat → Nat} {ex ex' : Nat → Prop} {r s r' s' : Nat} {c c' : CPh} {oc oc' : Bool} {st sm st' sm' : Int} {sg sg' : List Chunk} {d d' : Nat} {a b g g' gw gw' : Goroutine} {tau tau' : Tau WX}

/-- CLOSE. -/
theorem worker_close (h : PC P B dead p k gs w t q (· = k) r s c oc st sm sg d g) (hwl : WL P B dead p k gs w t r s c oc st sm sg tau gw) (hb : gs[k]? = some b) (hal : Alike b gw) {stp : Bool} (hph : tau.x.ph = .run stp) (hwake : mayWake P gw = true) (hcomp : stp = true ∨ s = p.All.length)
    (hst : stepG P false gw w = .go gw' { w with heap := w.heap.setIfInBounds p.O (.chan p.cap ((p.All.take s).drop r).toArray true s r false) } #[⟨.obj p.O, false, true⟩, ⟨.obj p.O, true, true⟩])
    (hK : KW P B Post p r c sg d g ⟨tau.sg, tau.d, ⟨tau.x.p, tau.x.s, .shut⟩⟩ gw') (hrun : gw'.status = .running) : ∃ m' ops, runT P (crowd gs w sl) k = (.next m', ops) ∧ Ends P Post m' (t ++ ops) := by
  obtain ⟨l1, l2, l3⟩ := h.lts
  have hne : ∀ x, x ≠ p.O → (w.heap.setIfInBounds p.O (Obj.chan p.cap ((p.All.take s).drop r).toArray true s r false))[x]? = w.heap[x]? := fun x hx => Array.getElem?_setIfInBounds_ne (Ne.symm hx)
  have hO : (w.heap.setIfInBounds p.O (Obj.chan p.cap ((p.All.take s).drop r).toArray true s r false))[p.O]? = some (.chan p.cap ((p.All.take s).drop r).toArray true s r false) := by simp [l1]
  have happ := appOk_grp (B := B) (s := tau.sg) (g := k) (es := #[⟨.obj p.O, false, true⟩, ⟨.obj p.O, true, true⟩]) l3 h.geo.bg (fun e he => by
      simp at he
      rcases he with rfl | rfl
      · exact .obj _ _ l1
      · exact .obj _ _ l1) b.frame.fn b.frame.place
  refine worker_go (w' := { w with heap := w.heap.setIfInBounds p.O (.chan p.cap ((p.All.take s).drop r).toArray true s r false) }) (tau' := ⟨tau.sg, tau.d, ⟨tau.x.p, tau.x.s, .shut⟩⟩) (oc' := true) (st' := st) (sm' := sm) h hwl hb (by rw [hal.step]; exact hst) hK hrun hwl.xp hwl.xs rfl ?_ (by simp [deafBehind]) ?_ (fun x hx => .inl ⟨x, hx, rfl, rfl⟩) (fun e => by cases e) ?_ (by simp) (by simpa using happ) ?_ rfl rfl (fun x hx => hne x (by have := h.geo.bo; omega)) (fun x _ _ hx _ _ => hne x hx)
    ⟨hO, (hne _ (Ne.symm h.geo.os)).trans h.sh.s, (hne _ (Ne.symm h.geo.og)).trans h.sh.g⟩ ?_ (fun e => by cases e)
  · have := hwl.st; rw [hph] at this
    cases c <;> exact this
  · exact ⟨hwl.sat.os, hwl.sat.out, by simpa using hwl.sat.size, fun x hx => (hne x (by have := h.geo.bo; omega)).trans (hwl.sat.low x hx), fun x hx => (hne x.b (hwl.sep.o x hx).1).trans (hwl.sat.here x hx), hwl.sat.above, hwl.sat.nodup⟩
  · intro a hca
    cases hca with
    | run h1 h2 => rw [woken_run h2]; exact .run h1 h2
    | park z hae _ _ _ _ =>
      have e : woken P b gw' { w with heap := w.heap.setIfInBounds p.O (.chan p.cap ((p.All.take s).drop r).toArray true s r false) } a = { a with status := .running } := by
        unfold Go.Conc.woken
        rw [if_pos (by rw [hal.wake, hwake, hrun]; rfl), hae]
        exact again_recv_closed hO
      rw [e, hae]
      exact .run ⟨rfl, rfl, rfl⟩ rfl
    | sem h1 h2 h3 h4 => exact (CAt.sem h1 h2 h3 h4 : CAt P B p sg r s c true sm a g).woken
  · refine mute_none fun op hop x a hx hxa => ?_
    obtain ⟨e, he, hop⟩ := Go.Conc.mem_ofEvents hop
    subst hop
    simp at he
    rcases he with rfl | rfl <;> simp [MemAct.ofEvent, MemAct.touch?] at hx
    subst hx; cases hxa
  · refine ⟨fun _ hc => ?_, fun _ => rfl⟩
    rcases hcomp with e | e
    · subst e
      have := (h.unwhole (by rw [hwl.oc, hph]; rfl) (hwl.stopped hph)).1
      rw [hc] at this; cases this
    · exact e

/-- RELEASE. -/
theorem worker_rel (h : PC P B dead p k gs w t q (· = k) r s c oc st sm sg d g) (hwl : WL P B dead p k gs w t r s c oc st sm sg tau gw) (hb : gs[k]? = some b) (hal : Alike b gw) {sw : List Chunk} (hph : tau.x.ph = .shut) (hd : tau.d = 0)
    (hst : stepG P false gw w = .go gw' w #[mkE (.releaseMerge (stA p.G))]) (hsw : ∀ c ∈ sw, c ∈ tau.sg ∧ c.own = true) (hnd : (sw.map Chunk.b).Nodup) (hfin : p.Fin s sw)
    (hK : KW P B Post p r c sg d g ⟨[], tau.d, ⟨tau.x.p, tau.x.s, .rel⟩⟩ gw') (hrun : gw'.status = .running) : ∃ m' ops, runT P (crowd gs w sl) k = (.next m', ops) ∧ Ends P Post m' (t ++ ops) := by
  obtain ⟨l1, l2, l3⟩ := h.lts
  have happ := appOk_grp (B := B) (s := tau.sg) (g := k) (es := #[mkE (.releaseMerge (stA p.G))]) l3 h.geo.bg (fun e he => by simp at he; subst he; exact .rel _ rfl) b.frame.fn b.frame.place
  have he : MemOp.ofEvents k b.frame.fn b.frame.place #[mkE (.releaseMerge (stA p.G))] = #[{ g := k, fn := b.frame.fn, pos := b.frame.place, act := .mark (.releaseMerge (stA p.G)) }] := by simp [MemOp.ofEvents, mkE, MemAct.ofEvent]
  have hoc : oc = true := by rw [hwl.oc, hph]; rfl
  refine worker_go (w' := w) (tau' := ⟨[], tau.d, ⟨tau.x.p, tau.x.s, .rel⟩⟩) (oc' := oc) (st' := st) (sm' := sm) h hwl hb (by rw [hal.step]; exact hst) hK hrun hwl.xp hwl.xs hoc ?_ (by simp [deafBehind, mkE]) ?_ (fun x hx => by cases hx) (fun e => by cases e) (fun a ha => ha.woken) (Nat.le_refl _) happ ?_ rfl rfl (fun _ _ => rfl) (fun _ _ _ _ _ _ => rfl) h.sh h.compl ?_
  · have := hwl.st; rw [hph] at this
    cases c <;> exact this
  · exact ⟨hwl.sat.os, hwl.sat.out, hwl.sat.size, hwl.sat.low, fun x hx => (by cases hx), fun x hx => (by cases hx), by simp⟩
  · refine mute_none fun op hop x a hx hxa => ?_
    rw [he] at hop; simp at hop; subst hop; simp [MemAct.touch?] at hx
  · intro _
    refine ⟨⟨sw, hfin, hnd, fun x hx => ?_⟩, ?_⟩
    · obtain ⟨h1, h2⟩ := hsw x hx
      refine ⟨h2, hwl.sat.here x h1, hwl.sat.above x h1, hwl.sep.nd x h1, hwl.sep.o x h1, fun y hy e => ?_⟩
      have hy' : y ∈ sg := by simpa using hy
      have := (hwl.dis y hy' x h1 e).2
      rw [h2] at this; cases this
    · rw [he]
      have hlast : (t ++ #[({ g := k, fn := b.frame.fn, pos := b.frame.place, act := .mark (.releaseMerge (stA p.G)) } : MemOp)])[t.size]? = some { g := k, fn := b.frame.fn, pos := b.frame.place, act := .mark (.releaseMerge (stA p.G)) } := by simp
      refine ⟨t.size, _, hlast, rfl, rfl, ⟨k, by simp [Trace.g?], ?_⟩, fun i x hx hm hg => .inl ?_⟩
      · rw [deaf_old (Nat.le_refl _)]; exact hwl.deaf.trans hd
      · obtain ⟨hi, _⟩ := touch_still (g := k) (u := #[({ g := k, fn := b.frame.fn, pos := b.frame.place, act := .mark (.releaseMerge (stA p.G)) } : MemOp)]) (fun op hop => by simp at hop; subst hop; exact ⟨rfl, rfl⟩) hx
        right
        obtain ⟨y, hy, hyg⟩ := Option.map_eq_some_iff.1 hg
        exact hb_po hi hy hlast hyg

/-- A STEP AT THE GROUP, said deaf. -/
theorem worker_grp (h : PC P B dead p k gs w t q (· = k) r s c oc st sm sg d g) (hwl : WL P B dead p k gs w t r s c oc st sm sg tau gw) (hb : gs[k]? = some b) (hal : Alike b gw) {es : Array Event} {ph' : WPh} (hrel : tau.x.ph.released = true) (hrel' : ph'.released = true)
    (hst : stepG P false gw w = .go gw' w' es) (hK : KW P B Post p r c sg d g ⟨tau.sg, tau.d, ⟨tau.x.p, tau.x.s, ph'⟩⟩ gw') (hrun : gw'.status = .running)
    (hsz : w'.heap.size = w.heap.size) (hos : w'.os = w.os) (hout : w'.output = w.output) (hne : ∀ x, x ≠ p.G → w'.heap[x]? = w.heap[x]?) (hG : w'.heap[p.G]? = some (wgO p.ty st' 0)) (hsm : sm = 0) (hev : ∀ e ∈ es, EvG p.G w.heap.size k e) (hnob : ∀ e ∈ es, ∀ r, e.loc ≠ .obj r)
    (hd : deafBehind tau.d es = tau.d) (hdeaf : ∀ j, j ≤ es.size → 0 < deafBehind tau.d (es.extract 0 j)) (hstt : stOf c ph' = some (st', 0)) : ∃ m' ops, runT P (crowd gs w sl) k = (.next m', ops) ∧ Ends P Post m' (t ++ ops) := by
  obtain ⟨l1, l2, l3⟩ := h.lts
  subst hsm
  have happ := appOk_grp (B := B) (s := tau.sg) (g := k) l3 h.geo.bg hev b.frame.fn b.frame.place
  have hmu : Mute t (MemOp.ofEvents k b.frame.fn b.frame.place es) p.G := mute_of (by rw [hwl.deaf]; exact hdeaf)
  have hoc : oc = ph'.closed := by
    have e1 := hwl.oc
    cases hp : tau.x.ph <;> rw [hp] at hrel e1 <;> cases hrel <;> cases ph' <;> cases hrel' <;> exact e1
  refine worker_go (w' := w') (tau' := ⟨tau.sg, tau.d, ⟨tau.x.p, tau.x.s, ph'⟩⟩) (oc' := oc) (st' := st') (sm' := 0) h hwl hb (by rw [hal.step]; exact hst) hK hrun hwl.xp hwl.xs hoc hstt hd ?_ (fun x hx => .inl ⟨x, hx, rfl, rfl⟩) (fun e => by rw [show ph' = .run true from e] at hrel'; cases hrel') (fun a ha => ha.woken) (by rw [hsz]; exact Nat.le_refl _) (by rw [hsz]; exact happ) hmu hos hout (fun x hx => hne x (by have := h.geo.bg; omega)) (fun x _ _ _ _ hx => hne x hx)
    ⟨(hne _ h.geo.og).trans h.sh.o, (hne _ h.geo.sg).trans h.sh.s, hG⟩ h.compl ?_
  · exact ⟨hos.trans hwl.sat.os, hout.trans hwl.sat.out, by rw [hsz]; exact hwl.sat.size, fun x hx => (hne x (by have := h.geo.bg; omega)).trans (hwl.sat.low x hx), fun x hx => (hne x.b (hwl.sep.o x hx).2.2).trans (hwl.sat.here x hx), hwl.sat.above, hwl.sat.nodup⟩
  · intro _
    obtain ⟨e1, e2⟩ := hwl.left hrel
    refine ⟨e1.keep (fun x _ _ _ _ _ hx => hne x hx) (fun x hx => .inl ⟨x, hx, rfl, rfl⟩), e2.app _ fun j op x hj hop hx hg => ?_⟩
    rcases getElem?_append_cases hop with ⟨hlt, _⟩ | ⟨_, hmem⟩
    · omega
    · have hT := happ.touch op hmem x hx
      obtain ⟨e, he, hope⟩ := Go.Conc.mem_ofEvents hmem
      have hat : ∃ a, x.loc = .cell a ∧ a.block = p.G ∧ x.kind = .atomic := by
        subst hope
        cases hev e he with
        | «at» a wr hb' => cases wr <;> simp [MemAct.ofEvent, MemAct.touch?] at hx <;> subst hx <;> exact ⟨a, rfl, hb', rfl⟩
        | said a _ h0 => exact absurd h0 h.k0
        | obj r wr _ => exact absurd rfl (hnob _ he r)
        | dis => simp [MemAct.ofEvent, MemAct.touch?] at hx
        | ena => simp [MemAct.ofEvent, MemAct.touch?] at hx
        | acq a _ => simp [MemAct.ofEvent, MemAct.touch?] at hx
        | rel a _ => simp [MemAct.ofEvent, MemAct.touch?] at hx
      obtain ⟨a, ha, hb', hk⟩ := hat
      exact ⟨a, ha, hb', hk, hmu j op x a hj hop hx ha hb'⟩

/-- THE WORKER's LAST STEP AT THE GROUP: from here it only leaves. -/
theorem worker_gone (h : PC P B dead p k gs w t q (· = k) r s c oc st sm sg d g) (hwl : WL P B dead p k gs w t r s c oc st sm sg tau gw) (hb : gs[k]? = some b) (hal : Alike b gw) {es : Array Event} (hrel : tau.x.ph.released = true)
    (hst : stepG P false gw w = .go gw' w' es) {n : Nat} (hq : QuitsD P n tau.d gw')
    (hG : ∀ dead k gs w sl t q s oc st sm, PC P B dead p k gs w t q (fun _ => False) r s c oc st sm sg d g → WG B dead p k w t s c oc st sm sg → Ends P Post (crowd gs w sl) t)
    (hsz : w'.heap.size = w.heap.size) (hos : w'.os = w.os) (hout : w'.output = w.output) (hne : ∀ x, x ≠ p.G → w'.heap[x]? = w.heap[x]?) (hGo : w'.heap[p.G]? = some (wgO p.ty st' sm')) (hev : ∀ e ∈ es, EvG p.G w.heap.size k e) (hnob : ∀ e ∈ es, ∀ r, e.loc ≠ .obj r)
    (hd : deafBehind tau.d es = tau.d) (hdeaf : ∀ j, j ≤ es.size → 0 < deafBehind tau.d (es.extract 0 j)) (hstt : stGone c = some (st', sm'))
    (hcal : ∀ a, CAt P B p sg r s c oc sm a g → CAt P B p sg r s c oc sm' (woken P b gw' w' a) g) : ∃ m' ops, runT P (crowd gs w sl) k = (.next m', ops) ∧ Ends P Post m' (t ++ ops) := by
  obtain ⟨l1, l2, l3⟩ := h.lts
  have happ := appOk_grp (B := B) (s := tau.sg) (g := k) l3 h.geo.bg hev b.frame.fn b.frame.place
  have hmu : Mute t (MemOp.ofEvents k b.frame.fn b.frame.place es) p.G := mute_of (by rw [hwl.deaf]; exact hdeaf)
  obtain ⟨a, h0, hca⟩ := h.cal
  have hle : w.heap.size ≤ w'.heap.size := by rw [hsz]; exact Nat.le_refl _
  refine ⟨_, _, runT_crowd_go hb (show stepG P (k == 0) b w = _ from by rw [k_ne h.k0, hal.step]; exact hst), ?_⟩
  have hpc := h.worker (gs' := (gs.map (woken P b gw' w')).setIfInBounds k gw') (w' := w') (u := MemOp.ofEvents k b.frame.fn b.frame.place es) (r' := r) (s' := s) (oc' := oc) (st' := st') (sm' := sm') rfl (W := hwl) (by simp) (fun m x hm0 hmx hx => by
      obtain ⟨y, hy, rfl⟩ := getElem?_map_set_ne (Ne.symm hmx) hx
      rw [woken_quitsD (h.com.leav m y hm0 hmx hy)]; exact hy)
    ⟨_, by rw [Array.getElem?_setIfInBounds_ne h.k0, Array.getElem?_map, h0]; rfl, hcal a hca⟩ hle (by rw [hsz]; exact happ) hmu hos hout (fun x hx => hne x (by have := h.geo.bg; omega)) (fun x _ _ _ _ hx => hne x hx)
    ⟨(hne _ h.geo.og).trans h.sh.o, (hne _ h.geo.sg).trans h.sh.s, hGo⟩ h.rs h.sl h.compl l3
  obtain ⟨e1, e2⟩ := hwl.left hrel
  have hcom : Com P B dead ((gs.map (woken P b gw' w')).setIfInBounds k gw') w' (t ++ MemOp.ofEvents k b.frame.fn b.frame.place es) (upd q k n) (fun _ => False) := by
    refine ⟨hpc.com.tr, fun m x hm0 _ hx => ?_, hpc.com.above, hpc.com.base, hpc.com.deadlt⟩
    by_cases hmk : m = k
    · subst hmk
      rw [getElem?_map_set h.kl] at hx
      obtain rfl := Option.some.inj hx
      rw [upd_same, Deaf_own, hwl.deaf, hd]; exact hq
    · rw [upd_ne q n hmk]; exact hpc.com.leav m x hm0 hmk hx
  refine hG dead k _ w' sl _ (upd q k n) s oc st' sm' ⟨hcom, hpc.k0, hpc.kl, hpc.cal, hpc.deaf, hpc.sat, hpc.sep, hpc.geo, hpc.sh, hpc.rs, hpc.sl, hpc.compl, hpc.kn⟩ ⟨?_, hstt, ?_, ?_⟩
  · have e1 := hwl.oc
    cases hp : tau.x.ph <;> rw [hp] at hrel e1 <;> cases hrel <;> exact e1
  · exact (e1.keep (fun x _ _ _ _ _ hx => hne x hx) (fun x hx => .inl ⟨x, List.mem_append_left _ hx, rfl, rfl⟩))
  · refine e2.app _ fun j op x hj hop hx hg => ?_
    rcases getElem?_append_cases hop with ⟨hlt, _⟩ | ⟨_, hmem⟩
    · omega
    · obtain ⟨e, he, hope⟩ := Go.Conc.mem_ofEvents hmem
      have hat : ∃ a, x.loc = .cell a ∧ a.block = p.G ∧ x.kind = .atomic := by
        subst hope
        cases hev e he with
        | «at» a wr hb' => cases wr <;> simp [MemAct.ofEvent, MemAct.touch?] at hx <;> subst hx <;> exact ⟨a, rfl, hb', rfl⟩
        | said a _ h0 => exact absurd h0 h.k0
        | obj r wr _ => exact absurd rfl (hnob _ he r)
        | dis => simp [MemAct.ofEvent, MemAct.touch?] at hx
        | ena => simp [MemAct.ofEvent, MemAct.touch?] at hx
        | acq a _ => simp [MemAct.ofEvent, MemAct.touch?] at hx
        | rel a _ => simp [MemAct.ofEvent, MemAct.touch?] at hx
      obtain ⟨a, ha, hb', hk⟩ := hat
      exact ⟨a, ha, hb', hk, hmu j op x a hj hop hx ha hb'⟩
end

end Go.Proofs.Ytdmhgajamepgoaa.Q
