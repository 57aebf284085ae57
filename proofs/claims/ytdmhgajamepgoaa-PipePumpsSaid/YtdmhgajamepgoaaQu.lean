/-
  OWN TEXT. PIPE: THE MACHINE, (17): A PUMPING BEGINS: the go statement.
-/
import Derived.Test.YtdmhgajamepgoaaQt
set_option linter.unusedVariables false
set_option linter.unusedSimpArgs false
set_option linter.unusedSectionVars false
namespace Go.Proofs.Ytdmhgajamepgoaa.Q
open Go Go.Conc
open Go.ConcN (sumTo upd sumTo_upd upd_ne upd_same)

/-- WHAT THE PARENT KNEW THE CHILD KNOWS. -/
theorem spawn_knows {t : Trace} {k : Nat} {fn fn2 : FuncId} {pos pos2 : String} (h0 : Deaf t 0 = 0) (hk : Deaf t k = 0) {i : Nat} (h : Knows t 0 i) :
    Knows (t ++ #[({ g := 0, fn, pos, act := .go k } : MemOp), { g := k, fn := fn2, pos := pos2, act := .start }]) k i := by
  have e : t ++ #[({ g := 0, fn, pos, act := .go k } : MemOp), { g := k, fn := fn2, pos := pos2, act := .start }] = (t ++ #[({ g := 0, fn, pos, act := .go k } : MemOp)]) ++ #[({ g := k, fn := fn2, pos := pos2, act := .start } : MemOp)] := by
    apply Array.ext'; simp
  rw [e]
  have hg : (t ++ #[({ g := 0, fn, pos, act := .go k } : MemOp)])[t.size]? = some { g := 0, fn, pos, act := .go k } := by simp
  have hsz : (t ++ #[({ g := 0, fn, pos, act := .go k } : MemOp)]).size = t.size + 1 := by simp
  have hs : ((t ++ #[({ g := 0, fn, pos, act := .go k } : MemOp)]) ++ #[({ g := k, fn := fn2, pos := pos2, act := .start } : MemOp)])[t.size + 1]? = some { g := k, fn := fn2, pos := pos2, act := .start } := by
    rw [Array.getElem?_append_right (by rw [hsz]; exact Nat.le_refl _)]; simp [hsz]
  have hb1 : HappensBefore (t ++ #[({ g := 0, fn, pos, act := .go k } : MemOp)]) i t.size := h.hb_new (Nat.le_refl _) hg rfl
  have hg2 : ((t ++ #[({ g := 0, fn, pos, act := .go k } : MemOp)]) ++ #[({ g := k, fn := fn2, pos := pos2, act := .start } : MemOp)])[t.size]? = some { g := 0, fn, pos, act := .go k } := by
    rw [getElem?_append_old (by rw [hsz]; omega)]; exact hg
  refine ⟨t.size + 1, _, hs, rfl, .inr ((hb_app _ hb1).trans (.single (.inr ⟨.spawn (child := k) ?_ ?_ ?_, ?_, ?_⟩)))⟩
  · rw [act?_of hg2]
  · rw [act?_of hs]
  · simp only [Trace.g?, hs]; rfl
  · refine ⟨0, by simp only [Trace.g?, hg2]; rfl, ?_⟩
    rw [deaf_old (by rw [hsz]; omega), deaf_old (Nat.le_refl _)]; exact h0
  · refine ⟨k, by simp only [Trace.g?, hs]; rfl, ?_⟩
    rw [deaf_old (by rw [hsz]; exact Nat.le_refl _)]
    have := deaf_nomark t k #[({ g := 0, fn, pos, act := .go k } : MemOp)] (by simp)
    unfold Deaf at this hk
    rw [hsz] at this
    rw [this]; exact hk

section
variable {P : Program} {B : World} {Post : Value → World → Prop} {dead : Nat → Prop} {gs : Array Goroutine} {w : World} {sl : Option (Nat × Nat)} {t : Trace} {q : Nat → Nat} {sg sc sw : List Chunk} {g g' child : Goroutine} {p : PRec}

theorem caller_spawn (h : Alone P B dead gs w t q ⟨sg, 0, .alone⟩ g) (hst : stepG P true g w = .spawn g' child w #[]) (hrun : g'.status = .running) (hch : child.status = .running)
    (hO : (⟨p.O, .chan p.cap #[] false 0 0 false, true⟩ : Chunk) ∈ sg) (hS : (⟨p.S, .chan 0 #[] false 0 0 false, true⟩ : Chunk) ∈ sg) (hG : (⟨p.G, wgO p.ty KK 0, true⟩ : Chunk) ∈ sg) (hos : p.O ≠ p.S) (hcap : 1 ≤ p.cap)
    (hsc : ∀ c ∈ sc, c.b ≠ p.O ∧ c.b ≠ p.S ∧ c.b ≠ p.G ∧ ∃ c' ∈ sg, c'.b = c.b ∧ c'.o = c.o ∧ (c.own = true → c'.own = true))
    (hsw : ∀ c ∈ sw, c.b ≠ p.O ∧ c.b ≠ p.S ∧ c.b ≠ p.G ∧ ∃ c' ∈ sg, c'.b = c.b ∧ c'.o = c.o ∧ (c.own = true → c'.own = true))
    (hdis : ∀ c ∈ sc, ∀ c' ∈ sw, c.b = c'.b → c.own = false ∧ c'.own = false) (hnc : (sc.map Chunk.b).Nodup) (hnw : (sw.map Chunk.b).Nodup)
    (hK : KC P B Post ⟨sc, 0, .pump p 0 .recv⟩ g') (hj : J (WMv P B) ⟨sw, 0, ⟨p, 0, .run false⟩⟩ child) : ∃ m' ops, runT P (crowd gs w sl) 0 = (.next m', ops) ∧ Ends P Post m' (t ++ ops) := by
  have hil : 0 < gs.size := (Array.getElem?_eq_some_iff.1 h.g0).1
  have hrunT := runT_crowd_spawn (sl := sl) h.g0 (show stepG P (0 == 0) g w = _ from hst)
  have hO' : w.heap[p.O]? = some (.chan p.cap #[] false 0 0 false) := h.sat.here _ hO
  have hS' : w.heap[p.S]? = some (.chan 0 #[] false 0 0 false) := h.sat.here _ hS
  have hG' : w.heap[p.G]? = some (wgO p.ty KK 0) := h.sat.here _ hG
  have hog : p.O ≠ p.G := fun e => by rw [e, hG'] at hO'; cases hO'
  have hsg' : p.S ≠ p.G := fun e => by rw [e, hG'] at hS'; cases hS'
  refine ⟨_, _, hrunT, ?_⟩
  have e1 : (((MemOp.ofEvents 0 g.frame.fn g.frame.place #[]).push { g := 0, fn := g.frame.fn, pos := g.frame.place, act := .go gs.size }).push { g := gs.size, fn := child.frame.fn, pos := g.frame.place, act := .start }) = #[({ g := 0, fn := g.frame.fn, pos := g.frame.place, act := .go gs.size } : MemOp), { g := gs.size, fn := child.frame.fn, pos := g.frame.place, act := .start }] := by simp [MemOp.ofEvents]
  rw [e1]
  have hcalm : Calm2 w.heap.size #[({ g := 0, fn := g.frame.fn, pos := g.frame.place, act := .go gs.size } : MemOp), { g := gs.size, fn := child.frame.fn, pos := g.frame.place, act := .start }] := ⟨by simp [MemAct.touch?], by simp [MemAct.low], by simp⟩
  generalize hu : #[({ g := 0, fn := g.frame.fn, pos := g.frame.place, act := .go gs.size } : MemOp), { g := gs.size, fn := child.frame.fn, pos := g.frame.place, act := .start }] = u at hcalm ⊢
  have hchunk : ∀ (l : List Chunk), (∀ c ∈ l, c.b ≠ p.O ∧ c.b ≠ p.S ∧ c.b ≠ p.G ∧ ∃ c' ∈ sg, c'.b = c.b ∧ c'.o = c.o ∧ (c.own = true → c'.own = true)) → (l.map Chunk.b).Nodup → Sat B l w ∧ Sep dead p l := fun l hl hn => by
    refine ⟨⟨h.sat.os, h.sat.out, h.sat.size, h.sat.low, fun c hc => ?_, fun c hc => ?_, hn⟩, fun c hc => ⟨(hl c hc).1, (hl c hc).2.1, (hl c hc).2.2.1⟩, fun c hc => ?_⟩
    · obtain ⟨_, _, _, c', hc', e, eo, _⟩ := hl c hc
      rw [← e, ← eo]; exact h.sat.here c' hc'
    · obtain ⟨_, _, _, c', hc', e, _⟩ := hl c hc
      exact e ▸ h.sat.above c' hc'
    · obtain ⟨_, _, _, c', hc', e, _⟩ := hl c hc
      exact e ▸ h.nd c' hc'
  obtain ⟨hsatc, hsepc⟩ := hchunk sc hsc hnc
  obtain ⟨hsatw, hsepw⟩ := hchunk sw hsw hnw
  have hk0 : Deaf t gs.size = 0 := h.com.above _ (Nat.le_refl _)
  have hgk : ((gs.setIfInBounds 0 g').push child)[gs.size]? = some child := by
    rw [Array.getElem?_push]; simp
  have hg0 : ((gs.setIfInBounds 0 g').push child)[0]? = some g' := by
    rw [Array.getElem?_push, if_neg (by simp; omega), Array.getElem?_setIfInBounds_self_of_lt hil]
  have hgm : ∀ m x, m ≠ 0 → m ≠ gs.size → ((gs.setIfInBounds 0 g').push child)[m]? = some x → gs[m]? = some x := fun m x hm0 hmk hx => by
    rw [Array.getElem?_push, if_neg (by simpa using hmk), Array.getElem?_setIfInBounds_ne (Ne.symm hm0)] at hx
    exact hx
  have hkn0 : ∀ i x, touchAt (t ++ u) i = some x → x.loc.isMemory = true → i < t.size ∧ (Knows t 0 i ∨ DeadB dead t i x) := fun i x hx hm => by
    obtain ⟨hi, hx'⟩ := touch_calm hcalm hx
    exact ⟨hi, h.kn i x hx' hm⟩
  have hpc : PC P B dead p gs.size ((gs.setIfInBounds 0 g').push child) w (t ++ u) q (· = gs.size) 0 0 .recv false KK 0 sc 0 g' := by
    refine ⟨⟨h.com.tr.calm hcalm, fun m x hm0 hmk hx => ?_, fun j hj' => ?_, h.com.base, h.com.deadlt⟩, by omega, by simp, ⟨g', hg0, .run (Alike.refl _) hrun⟩, by rw [deaf_nomark t 0 u hcalm.nm]; exact h.deaf, hsatc, hsepc,
      ⟨hos, hog, hsg', h.sat.above _ hO, h.sat.above _ hS, h.sat.above _ hG, ⟨h.nd _ hO, h.nd _ hS, h.nd _ hG⟩, hcap⟩, ⟨by simpa using hO', hS', hG'⟩, Nat.le_refl _, Nat.zero_le _, compl_recv, fun i x hx hm => ?_⟩
    · rw [deaf_nomark t m u hcalm.nm]; exact h.com.leav m x hm0 (fun e => e) (hgm m x hm0 hmk hx)
    · rw [deaf_nomark t j u hcalm.nm]; exact h.com.above j (by simp at hj'; omega)
    · obtain ⟨hi, hk⟩ := hkn0 i x hx hm
      exact hk.imp (·.app u) fun hd => .inl (hd.app u hi)
  have hwl : WL P B dead p gs.size ((gs.setIfInBounds 0 g').push child) w (t ++ u) 0 0 .recv false KK 0 sc ⟨sw, 0, ⟨p, 0, .run false⟩⟩ child := by
    refine ⟨⟨child, hgk, .run (Alike.refl _) hch⟩, rfl, rfl, rfl, rfl, by rw [deaf_nomark t _ u hcalm.nm]; exact hk0, hsatw, hsepw, hdis, (fun e => by cases e), fun i x hx hm => ?_, (fun e => by cases e)⟩
    obtain ⟨hi, hk⟩ := hkn0 i x hx hm
    rcases hk with hk | hd
    · exact .inl (hu ▸ spawn_knows h.deaf hk0 hk)
    · exact .inr (.inl (hd.app u hi))
  exact hK.2 dead p gs.size _ w sl _ q _ 0 0 .recv false KK 0 rfl hpc (.inl ⟨rfl, _, _, hwl, hj⟩)
end

end Go.Proofs.Ytdmhgajamepgoaa.Q
