/-
  OWN TEXT. PIPE: THE MACHINE, (4): how a step of the worker's leaves the caller, and its own side; how a leaver's slip leaves both.
-/
import Derived.Test.YtdmhgajamepgoaaQg
set_option linter.unusedVariables false
set_option linter.unusedSimpArgs false
set_option linter.unusedSectionVars false
namespace Go.Proofs.Ytdmhgajamepgoaa.Q
open Go Go.Conc
open Go.ConcN (sumTo upd sumTo_upd upd_ne upd_same)

section
variable {P : Program} {B : World} {dead : Nat → Prop} {p : PRec} {k : Nat} {gs gs' : Array Goroutine} {w w' : World} {t u : Trace} {q q' : Nat → Nat} {ex ex' : Nat → Prop} {r s r' s' : Nat} {c c' : CPh} {oc oc' : Bool} {st sm st' sm' : Int} {sg sg' : List Chunk} {d d' : Nat} {g g' gw gw' : Goroutine} {tau tau' : Tau WX}

/-- The worker is gone: a step of the caller's. -/
theorem WG.caller (h : WG B dead p k w t s c oc st sm sg) (k0 : k ≠ 0) (hst : stGone c' = some (st', sm'))
    (ha : ∀ op ∈ u, op.g = 0) (hids : ∀ c' ∈ sg', (∃ c ∈ sg, c.b = c'.b ∧ c.own = c'.own) ∨ w.heap.size ≤ c'.b)
    (hfr : ∀ b, b < w.heap.size → ¬ Mine sg b → b ≠ p.O → b ≠ p.S → b ≠ p.G → w'.heap[b]? = w.heap[b]?) : WG B dead p k w' (t ++ u) s c' oc st' sm' sg' := by
  refine ⟨h.oc, hst, h.left.keep (fun b hb hB hn => hfr b hb (fun ⟨z, hz, hzb, _⟩ => hn ⟨z, hz, hzb⟩)) hids, h.rel.app u fun j op x hj hop _ hg => ?_⟩
  rcases getElem?_append_cases hop with ⟨hlt, _⟩ | ⟨_, hu⟩
  · omega
  · exact absurd ((ha op hu).symm.trans hg) (Ne.symm k0)

theorem WL.compat (h : WL P B dead p k gs w t r s c oc st sm sg tau gw) (geo : Geo B dead p) (k0 : k ≠ 0) : Compat tau.sg (· = p.G) k t (fun i x => DeadB dead t i x ∨ Oth1 tau.sg p.G t i x) := by
  rintro i x a (⟨a', hl, hda, _, _⟩ | ho) hx hxa
  · obtain rfl : a' = a := Loc.cell.inj (hl.symm.trans hxa)
    exact ⟨fun ⟨c, hc, hb, _⟩ => h.sep.nd c hc (hb ▸ hda), fun ⟨c, hc, hb⟩ => absurd (hb ▸ hda) (h.sep.nd c hc), fun e => absurd (e ▸ hda) geo.nd.2.2⟩
  · obtain ⟨h1, h2, h3⟩ := ho.2 a hxa
    exact ⟨h1, h2, fun e => ⟨h3 e, fun e0 => absurd e0 k0⟩⟩

/-- What the worker says of the group it says deaf. -/
def Mute (t u : Trace) (G : Nat) : Prop := ∀ j op x a, t.size ≤ j → (t ++ u)[j]? = some op → op.act.touch? = some x → x.loc = .cell a → a.block = G → ¬ (t ++ u).heard j

/-- A STEP OF THE WORKER's, as far as the caller goes. -/
theorem PC.worker (h : PC P B dead p k gs w t q ex r s c oc st sm sg d g) (hex : ex k) {W : WL P B dead p k gs w t r s c oc st sm sg tau gw}
    (hs : gs'.size = gs.size) (hg : ∀ m x, m ≠ 0 → ¬ ex m → gs'[m]? = some x → gs[m]? = some x) (hcal : ∃ a, gs'[0]? = some a ∧ CAt P B p sg r' s' c oc' sm' a g) (hw : w.heap.size ≤ w'.heap.size)
    (ha : AppOk B tau.sg w.heap.size w'.heap.size (· = p.G) k u) (hmu : Mute t u p.G) (hos : w'.os = w.os) (hout : w'.output = w.output)
    (hlow : ∀ b, b < B.heap.size → w'.heap[b]? = w.heap[b]?)
    (hfr : ∀ b, b < w.heap.size → ¬ Mine tau.sg b → b ≠ p.O → b ≠ p.S → b ≠ p.G → w'.heap[b]? = w.heap[b]?)
    (hsh : Sh p w' r' s' oc' c.closed st' sm') (hrs : r' ≤ s') (hsl : s' ≤ p.All.length) (hco : Compl p s' c oc') (hGl : p.G < w.heap.size) :
    PC P B dead p k gs' w' (t ++ u) q ex r' s' c oc' st' sm' sg d g := by
  have htr := app_base h.com.tr ha hw W.kn (W.compat h.geo h.k0)
  have hkn : ∀ x ∈ sg, ¬ Mine tau.sg x.b := fun x hx ⟨y, hy, hb, ho⟩ => by
    have := (W.dis x hx y hy hb.symm).2
    rw [this] at ho; cases ho
  refine ⟨h.com.next (.inr hex) ha.gs hs h.kl hg hw htr, h.k0, by rw [hs]; exact h.kl, hcal, by rw [Deaf_other t h.k0 u ha.gs]; exact h.deaf, ⟨hos.trans h.sat.os, hout.trans h.sat.out, Nat.le_trans h.sat.size hw, fun b hb => (hlow b hb).trans (h.sat.low b hb), fun x hx => ?_, h.sat.above, h.sat.nodup⟩, h.sep, h.geo, hsh, hrs, hsl, hco, fun i x hx hm => ?_⟩
  · obtain ⟨h1, h2, h3⟩ := h.sep.o x hx
    rw [hfr x.b (h.sat.lt x hx).2 (hkn x hx) h1 h2 h3]; exact h.sat.here x hx
  · rcases app_other (u := u) h.kn i x hx hm with hk | ⟨hx', hb⟩ | ⟨hi, op, hop, hio, hy⟩
    · exact .inl hk
    · exact .inr (hb.imp (·.app u (touchAt_lt hx')) fun ho => ho.app (n := 0) u (touchAt_lt hx') (fun z hz => .inl ⟨z, hz, rfl, rfl⟩) |> fun f => by
        refine ⟨by rw [Go.Conc.g?_old (touchAt_lt hx')]; exact ho.1, fun a ha' => ?_⟩
        obtain ⟨e1, e2, e3⟩ := ho.2 a ha'
        exact ⟨e1, e2, fun e => ⟨(e3 e).1, fun e' => (e3 e).2 ((heard_old (touchAt_lt hx')).1 e')⟩⟩)
    · refine .inr (.inr ⟨by simp [Trace.g?, hio, ha.gs op hop], fun a hxa => ?_⟩)
      have hT := ha.touch op hop x hy
      have hG : a.block = p.G → ¬ (t ++ u).heard i := fun e => hmu i op x a hi hio hy hxa e
      cases hT with
      | own _ a' hya hown hB =>
        obtain rfl : a' = a := Loc.cell.inj (hya.symm.trans hxa)
        have hnk : ¬ Known sg a'.block := by
          rintro ⟨z, hz, hb⟩
          rcases hown with ho | ho
          · exact hkn z hz (hb ▸ ho)
          · have := (h.sat.lt z hz).2; omega
        refine ⟨fun ⟨z, hz, hb, _⟩ => hnk ⟨z, hz, hb⟩, fun e => absurd e hnk, fun e => ?_⟩
        rcases hown with ⟨z, hz, hb, _⟩ | ho
        · exact absurd (hb.trans e) (W.sep.o z hz).2.2
        · omega
      | read a' hr =>
        obtain rfl : a' = a := Loc.cell.inj hxa
        refine ⟨?_, fun _ => rfl, fun e => ?_⟩
        · rintro ⟨z, hz, hb, ho⟩
          rcases hr with ⟨y, hy', hb'⟩ | hr
          · have := (W.dis z hz y hy' (hb.trans hb'.symm)).1; rw [this] at ho; cases ho
          · have := h.sat.above z hz; omega
        · rcases hr with ⟨y, hy', hb'⟩ | hr
          · exact absurd (hb'.trans e) (W.sep.o y hy').2.2
          · have := h.geo.bg; omega
      | obj r0 => cases hxa
      | grp _ a' hya hgp hB hnp hat =>
        obtain rfl : a' = a := Loc.cell.inj (hya.symm.trans hxa)
        exact ⟨fun ⟨z, hz, hb, _⟩ => (h.sep.o z hz).2.2 (hb.trans hgp), fun ⟨z, hz, hb⟩ => absurd (hb.trans hgp) (h.sep.o z hz).2.2, fun e => ⟨hat h.k0, hG e⟩⟩

/-- .. and as far as its own side goes. -/
theorem WL.app (h : WL P B dead p k gs w t r s c oc st sm sg tau gw) (k0 : k ≠ 0) (hcom : Com P B dead gs w t q ex) (hsatc : Sat B sg w)
    (hwor : ∃ b, gs'[k]? = some b ∧ WAt P B tau' c r' b gw') (hxp : tau'.x.p = p) (hxs : tau'.x.s = s') (hoc : oc' = tau'.x.ph.closed) (hst : stOf c tau'.x.ph = some (st', sm'))
    (hd : Deaf (t ++ u) k = tau'.d) (hsat : Sat B tau'.sg w') (hids : ∀ c' ∈ tau'.sg, (∃ c ∈ tau.sg, c.b = c'.b ∧ c.own = c'.own) ∨ w.heap.size ≤ c'.b)
    (hstop : tau'.x.ph = .run true → c ≠ .recv) (ha : ∀ op ∈ u, op.g = k) (hO : p.O < w.heap.size) (hS : p.S < w.heap.size) (hG : p.G < w.heap.size)
    (hleft : tau'.x.ph.released = true → Left B dead p w' (sg ++ tau'.sg) s' ∧ Released (t ++ u) k p.G) : WL P B dead p k gs' w' (t ++ u) r' s' c oc' st' sm' sg tau' gw' := by
  refine ⟨hwor, hxp, hxs, hoc, hst, hd, hsat, ⟨fun x hx => ?_, fun x hx hdd => ?_⟩, fun x hx y hy e => ?_, hstop, fun i x hx hm => ?_, hleft⟩
  · rcases hids x hx with ⟨y, hy, hb, _⟩ | hb
    · exact hb ▸ h.sep.o y hy
    · exact ⟨by omega, by omega, by omega⟩
  · rcases hids x hx with ⟨y, hy, hb, _⟩ | hb
    · exact h.sep.nd y hy (hb ▸ hdd)
    · have := (hcom.deadlt _ hdd).2; omega
  · rcases hids y hy with ⟨z, hz, hb, ho⟩ | hb
    · have := h.dis x hx z hz (e.trans hb.symm); exact ⟨this.1, ho ▸ this.2⟩
    · have := (hsatc.lt x hx).2; omega
  · rcases app_me ha h.kn i x hx hm with hk | ⟨hx', hb⟩
    · exact .inl hk
    · exact .inr (hb.imp (·.app u (touchAt_lt hx')) fun ho => ho.app u (touchAt_lt hx') hids fun a ha' => hcom.tr.lowc hx' ha')

/-! ### a leaver's slip -/
theorem PC.slip (h : PC P B dead p k gs w t q ex r s c oc st sm sg d g) (hs : gs'.size = gs.size) {i dd : Nat} (hi0 : i ≠ 0) (hcom : Com P B dead gs' (w.at dd) (t ++ u) q' ex') (hu : ∀ op ∈ u, op.g = i ∧ op.act.touch? = none)
    (hcal : ∃ a, gs'[0]? = some a ∧ CAt P B p sg r s c oc sm a g) : PC P B dead p k gs' (w.at dd) (t ++ u) q' ex' r s c oc st sm sg d g := by
  refine ⟨hcom, h.k0, by rw [hs]; exact h.kl, hcal, by rw [Deaf_other t hi0 u fun op hop => (hu op hop).1]; exact h.deaf, h.sat.at dd, h.sep, h.geo, ⟨h.sh.o, h.sh.s, h.sh.g⟩, h.rs, h.sl, h.compl, fun j x hx hm => ?_⟩
  obtain ⟨hj, hx'⟩ := touch_still hu hx
  rcases h.kn j x hx' hm with hk | hb | ho
  · exact .inl (hk.app u)
  · exact .inr (.inl (hb.app u hj))
  · exact .inr (.inr (ho.app u hj (n := w.heap.size) (fun z hz => .inl ⟨z, hz, rfl, rfl⟩) fun a ha => h.com.tr.lowc hx' ha))

theorem Released.slip (h : Released t k p.G) {i : Nat} (hu : ∀ op ∈ u, op.g = i ∧ op.act.touch? = none) : Released (t ++ u) k p.G :=
  h.app u fun j op x hj hop hx _ => by
    rcases getElem?_append_cases hop with ⟨hlt, _⟩ | ⟨_, h'⟩
    · omega
    · rw [(hu op h').2] at hx; cases hx

theorem WL.slip (h : WL P B dead p k gs w t r s c oc st sm sg tau gw) {i dd : Nat} (hik : i ≠ k) (hlow : TrB B w.heap.size t) (hu : ∀ op ∈ u, op.g = i ∧ op.act.touch? = none)
    (hwor : ∃ b, gs'[k]? = some b ∧ WAt P B tau c r b gw) : WL P B dead p k gs' (w.at dd) (t ++ u) r s c oc st sm sg tau gw := by
  refine ⟨hwor, h.xp, h.xs, h.oc, h.st, by rw [Deaf_other t hik u fun op hop => (hu op hop).1]; exact h.deaf, h.sat.at dd, h.sep, h.dis, h.stopped, fun j x hx hm => ?_, fun e => ⟨(h.left e).1, (h.left e).2.slip hu⟩⟩
  obtain ⟨hj, hx'⟩ := touch_still hu hx
  rcases h.kn j x hx' hm with hk | hb | ho
  · exact .inl (hk.app u)
  · exact .inr (.inl (hb.app u hj))
  · exact .inr (.inr (ho.app u hj (n := w.heap.size) (fun z hz => .inl ⟨z, hz, rfl, rfl⟩) fun a ha => hlow.lowc hx' ha))

theorem WG.slip (h : WG B dead p k w t s c oc st sm sg) {i dd : Nat} (hu : ∀ op ∈ u, op.g = i ∧ op.act.touch? = none) : WG B dead p k (w.at dd) (t ++ u) s c oc st sm sg :=
  ⟨h.oc, h.st, h.left, h.rel.slip hu⟩
end

end Go.Proofs.Ytdmhgajamepgoaa.Q
