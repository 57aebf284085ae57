/-
  OWN TEXT. PIPE: THE MACHINE, (3): WHILE ONE PUMPS: what is held of the caller and of what is shared ('PC'), of the worker that is at work ('WL') or gone ('WG'); how a step of either leaves the other.
-/
import Derived.Test.YtdmhgajamepgoaaQf
set_option linter.unusedVariables false
set_option linter.unusedSimpArgs false
set_option linter.unusedSectionVars false
namespace Go.Proofs.Ytdmhgajamepgoaa.Q
open Go Go.Conc
open Go.ConcN (sumTo upd sumTo_upd upd_ne upd_same)

def WPh.closed : WPh → Bool | .run _ => false | _ => true
def CPh.closed : CPh → Bool | .recv | .over => false | _ => true
def stOf : CPh → WPh → Option (Int × Int)
  | .recv, .run _ | .recv, .shut | .recv, .rel | .over, .run _ | .over, .shut | .over, .rel | .shut, .run _ | .shut, .shut | .shut, .rel => some (KK, 0)
  | .reg, .run _ | .reg, .shut | .reg, .rel => some (KK + 1, 0)
  | .reg, .d2 | .reg, .d3 => some (1, 0)
  | .reg, .d4 => some (0, 0)
  | _, _ => none
def stGone : CPh → Option (Int × Int)
  | .reg => some (0, 1)
  | _ => some (0, 0)

/-- What is shared. -/
structure Sh (p : PRec) (w : World) (r s : Nat) (oc sc : Bool) (st sm : Int) : Prop where
  o : w.heap[p.O]? = some (.chan p.cap ((p.All.take s).drop r).toArray oc s r false)
  s : w.heap[p.S]? = some (.chan 0 #[] sc 0 0 false)
  g : w.heap[p.G]? = some (wgO p.ty st sm)
structure Sep (dead : Nat → Prop) (p : PRec) (sg : List Chunk) : Prop where
  o : ∀ c ∈ sg, c.b ≠ p.O ∧ c.b ≠ p.S ∧ c.b ≠ p.G
  nd : ∀ c ∈ sg, ¬ dead c.b
structure Geo (B : World) (dead : Nat → Prop) (p : PRec) : Prop where
  os : p.O ≠ p.S
  og : p.O ≠ p.G
  sg : p.S ≠ p.G
  bo : B.heap.size ≤ p.O
  bs : B.heap.size ≤ p.S
  bg : B.heap.size ≤ p.G
  nd : ¬ dead p.O ∧ ¬ dead p.S ∧ ¬ dead p.G
  cap : 1 ≤ p.cap

def Oth0 (sg : List Chunk) (G k : Nat) (t : Trace) (i : Nat) (x : Touch) : Prop :=
  t.g? i = some k ∧ ∀ a, x.loc = .cell a → ¬ Mine sg a.block ∧ (Known sg a.block → x.write = false) ∧ (a.block = G → x.kind = .atomic ∧ ¬ t.heard i)
def Oth1 (sg : List Chunk) (G : Nat) (t : Trace) (i : Nat) (x : Touch) : Prop :=
  t.g? i = some 0 ∧ ∀ a, x.loc = .cell a → ¬ Mine sg a.block ∧ (Known sg a.block → x.write = false) ∧ (a.block = G → x.kind ≠ .plain)
def Released (t : Trace) (k G : Nat) : Prop :=
  ∃ r0 op, t[r0]? = some op ∧ op.g = k ∧ op.act = .mark (.releaseMerge (stA G)) ∧ t.heard r0 ∧
    ∀ i x, touchAt t i = some x → x.loc.isMemory = true → t.g? i = some k → Before t i r0 ∨ ∃ a, x.loc = .cell a ∧ a.block = G ∧ x.kind = .atomic ∧ ¬ t.heard i
/-- What the worker has left behind. -/
def Left (B : World) (dead : Nat → Prop) (p : PRec) (w : World) (sgc : List Chunk) (s : Nat) : Prop :=
  ∃ sw, p.Fin s sw ∧ (sw.map Chunk.b).Nodup ∧ ∀ c ∈ sw, c.own = true ∧ w.heap[c.b]? = some c.o ∧ B.heap.size ≤ c.b ∧ ¬ dead c.b ∧ (c.b ≠ p.O ∧ c.b ≠ p.S ∧ c.b ≠ p.G) ∧ ∀ c' ∈ sgc, c'.b ≠ c.b

inductive CAt (P : Program) (B : World) (p : PRec) (sg : List Chunk) (r s : Nat) (c : CPh) (oc : Bool) (sm : Int) (a g : Goroutine) : Prop
  | run : Alike a g → a.status = .running → CAt P B p sg r s c oc sm a g
  | park (z : Value) : a = parked g #[rcase p.O z] (.recv true) → c = .recv → oc = false → r = s →
      (∀ w, Sat B sg w → stepG P true g w = .comm g #[rcase p.O z] true (.recv true) w #[]) → CAt P B p sg r s c oc sm a g
  | sem : a = { g with status := .blocked } → g.offers = none → c = .reg → sm = 0 → CAt P B p sg r s c oc sm a g

inductive WAt (P : Program) (B : World) (tau : Tau WX) (c : CPh) (r : Nat) (b g : Goroutine) : Prop
  | run : Alike b g → b.status = .running → WAt P B tau c r b g
  | park (v zo z : Value) : b = parked g #[scase tau.x.p.O v zo, rcase tau.x.p.S z] .select → tau.x.ph = .run false → c = .recv → tau.x.p.cap + r ≤ tau.x.s → tau.x.p.All[tau.x.s]? = some v →
      (∀ w, Sat B tau.sg w → stepG P false g w = .comm g #[scase tau.x.p.O v zo, rcase tau.x.p.S z] true .select w #[]) → WAt P B tau c r b g

/-- What is known of O's being closed. -/
def Compl (p : PRec) (s : Nat) (c : CPh) (oc : Bool) : Prop := (oc = true → c.closed = false → s = p.All.length) ∧ (c = .over ∨ c ≠ .recv ∧ p.whole = true → oc = true)
theorem compl_recv {p : PRec} {s : Nat} : Compl p s .recv false :=
  ⟨fun e => (by cases e), fun e => e.elim (fun e => (by cases e)) fun e => absurd rfl e.1⟩

structure PC (P : Program) (B : World) (dead : Nat → Prop) (p : PRec) (k : Nat) (gs : Array Goroutine) (w : World) (t : Trace) (q : Nat → Nat) (ex : Nat → Prop) (r s : Nat) (c : CPh) (oc : Bool) (st sm : Int) (sg : List Chunk) (d : Nat) (g : Goroutine) : Prop where
  com : Com P B dead gs w t q ex
  k0 : k ≠ 0
  kl : k < gs.size
  cal : ∃ a, gs[0]? = some a ∧ CAt P B p sg r s c oc sm a g
  deaf : Deaf t 0 = d
  sat : Sat B sg w
  sep : Sep dead p sg
  geo : Geo B dead p
  sh : Sh p w r s oc c.closed st sm
  rs : r ≤ s
  sl : s ≤ p.All.length
  compl : Compl p s c oc
  kn : ∀ i x, touchAt t i = some x → x.loc.isMemory = true → Knows t 0 i ∨ DeadB dead t i x ∨ Oth0 sg p.G k t i x

structure WL (P : Program) (B : World) (dead : Nat → Prop) (p : PRec) (k : Nat) (gs : Array Goroutine) (w : World) (t : Trace) (r s : Nat) (c : CPh) (oc : Bool) (st sm : Int) (sgc : List Chunk) (tau : Tau WX) (g : Goroutine) : Prop where
  wor : ∃ b, gs[k]? = some b ∧ WAt P B tau c r b g
  xp : tau.x.p = p
  xs : tau.x.s = s
  oc : oc = tau.x.ph.closed
  st : stOf c tau.x.ph = some (st, sm)
  deaf : Deaf t k = tau.d
  sat : Sat B tau.sg w
  sep : Sep dead p tau.sg
  dis : ∀ c ∈ sgc, ∀ c' ∈ tau.sg, c.b = c'.b → c.own = false ∧ c'.own = false
  stopped : tau.x.ph = .run true → c ≠ .recv
  kn : ∀ i x, touchAt t i = some x → x.loc.isMemory = true → Knows t k i ∨ DeadB dead t i x ∨ Oth1 tau.sg p.G t i x
  left : tau.x.ph.released = true → Left B dead p w (sgc ++ tau.sg) s ∧ Released t k p.G

structure WG (B : World) (dead : Nat → Prop) (p : PRec) (k : Nat) (w : World) (t : Trace) (s : Nat) (c : CPh) (oc : Bool) (st sm : Int) (sgc : List Chunk) : Prop where
  oc : oc = true
  st : stGone c = some (st, sm)
  left : Left B dead p w sgc s
  rel : Released t k p.G

section
variable {P : Program} {B : World} {dead : Nat → Prop} {p : PRec} {k : Nat} {gs gs' : Array Goroutine} {w w' : World} {t u : Trace} {q : Nat → Nat} {ex : Nat → Prop} {r s r' s' : Nat} {c c' : CPh} {oc oc' : Bool} {st sm st' sm' : Int} {sg sg' : List Chunk} {d d' : Nat} {g g' : Goroutine}

theorem mine_back {n : Nat} (hids : ∀ c' ∈ sg', (∃ c ∈ sg, c.b = c'.b ∧ c.own = c'.own) ∨ n ≤ c'.b) {b : Nat} (hb : b < n) (h : Mine sg' b) : Mine sg b := by
  obtain ⟨c', hc', rfl, ho⟩ := h
  rcases hids c' hc' with ⟨c, hc, e, eo⟩ | h
  · exact ⟨c, hc, e, eo.trans ho⟩
  · omega
theorem known_back {n : Nat} (hids : ∀ c' ∈ sg', (∃ c ∈ sg, c.b = c'.b ∧ c.own = c'.own) ∨ n ≤ c'.b) {b : Nat} (hb : b < n) (h : Known sg' b) : Known sg b := by
  obtain ⟨c', hc', rfl⟩ := h
  rcases hids c' hc' with ⟨c, hc, e, _⟩ | h
  · exact ⟨c, hc, e⟩
  · omega

theorem Oth0.app {i : Nat} {x : Touch} {n : Nat} (h : Oth0 sg p.G k t i x) (u : Trace) (hi : i < t.size) (hids : ∀ c' ∈ sg', (∃ c ∈ sg, c.b = c'.b ∧ c.own = c'.own) ∨ n ≤ c'.b) (hn : ∀ a, x.loc = .cell a → a.block < n) : Oth0 sg' p.G k (t ++ u) i x := by
  refine ⟨by rw [Go.Conc.g?_old hi]; exact h.1, fun a ha => ?_⟩
  obtain ⟨h1, h2, h3⟩ := h.2 a ha
  exact ⟨fun e => h1 (mine_back hids (hn a ha) e), fun e => h2 (known_back hids (hn a ha) e), fun e => ⟨(h3 e).1, fun e' => (h3 e).2 ((heard_old hi).1 e')⟩⟩
theorem Oth1.app {i : Nat} {x : Touch} {n : Nat} (h : Oth1 sg p.G t i x) (u : Trace) (hi : i < t.size) (hids : ∀ c' ∈ sg', (∃ c ∈ sg, c.b = c'.b ∧ c.own = c'.own) ∨ n ≤ c'.b) (hn : ∀ a, x.loc = .cell a → a.block < n) : Oth1 sg' p.G (t ++ u) i x := by
  refine ⟨by rw [Go.Conc.g?_old hi]; exact h.1, fun a ha => ?_⟩
  obtain ⟨h1, h2, h3⟩ := h.2 a ha
  exact ⟨fun e => h1 (mine_back hids (hn a ha) e), fun e => h2 (known_back hids (hn a ha) e), h3⟩

theorem Released.app (h : Released t k p.G) (u : Trace) (hu : ∀ j op x, t.size ≤ j → (t ++ u)[j]? = some op → op.act.touch? = some x → op.g = k → ∃ a, x.loc = .cell a ∧ a.block = p.G ∧ x.kind = .atomic ∧ ¬ (t ++ u).heard j) : Released (t ++ u) k p.G := by
  obtain ⟨r0, op, h1, h2, h3, h4, h5⟩ := h
  have hl := lt_size_of_getElem? h1
  refine ⟨r0, op, by rw [getElem?_append_old hl]; exact h1, h2, h3, (heard_old hl).2 h4, fun i x hx hm hg => ?_⟩
  rcases touchAt_cases hx with ⟨hi, hx'⟩ | ⟨hi, op', hop', hio, hy⟩
  · rw [Go.Conc.g?_old hi] at hg
    exact (h5 i x hx' hm hg).imp (·.app u) fun ⟨a, e1, e2, e3, e4⟩ => ⟨a, e1, e2, e3, fun e => e4 ((heard_old hi).1 e)⟩
  · exact .inr (hu i op' x hi hio hy (by simp [Trace.g?, hio] at hg; exact hg))

theorem Left.keep (h : Left B dead p w sg s) (hl : ∀ b, b < w.heap.size → B.heap.size ≤ b → ¬ Known sg b → b ≠ p.O → b ≠ p.S → b ≠ p.G → w'.heap[b]? = w.heap[b]?)
    (hids : ∀ c' ∈ sg', (∃ c ∈ sg, c.b = c'.b ∧ c.own = c'.own) ∨ w.heap.size ≤ c'.b) : Left B dead p w' sg' s := by
  obtain ⟨sw, h1, h2, h3⟩ := h
  refine ⟨sw, h1, h2, fun c hc => ?_⟩
  obtain ⟨e1, e2, e3, e4, e5, e6⟩ := h3 c hc
  have hlt : c.b < w.heap.size := by
    rcases Nat.lt_or_ge c.b w.heap.size with h | h
    · exact h
    · rw [Array.getElem?_eq_none h] at e2; cases e2
  refine ⟨e1, ?_, e3, e4, e5, fun c' hc' e => ?_⟩
  · rw [hl c.b hlt e3 (fun ⟨x, hx, hb⟩ => e6 x hx hb) e5.1 e5.2.1 e5.2.2]; exact e2
  · rcases hids c' hc' with ⟨x, hx, hb, _⟩ | hb
    · exact e6 x hx (hb.trans e)
    · omega

theorem PC.compat (h : PC P B dead p k gs w t q ex r s c oc st sm sg d g) : Compat sg (· = p.G) 0 t (fun i x => DeadB dead t i x ∨ Oth0 sg p.G k t i x) := by
  rintro i x a (⟨a', hl, hda, hat, _⟩ | ho) hx hxa
  · obtain rfl : a' = a := Loc.cell.inj (hl.symm.trans hxa)
    exact ⟨fun ⟨c, hc, hb, _⟩ => h.sep.nd c hc (hb ▸ hda), fun ⟨c, hc, hb⟩ => absurd (hb ▸ hda) (h.sep.nd c hc), fun e => absurd (e ▸ hda) h.geo.nd.2.2⟩
  · obtain ⟨h1, h2, h3⟩ := ho.2 a hxa
    exact ⟨h1, h2, fun e => ⟨by rw [(h3 e).1]; simp, fun _ => (h3 e).1⟩⟩

/-- A STEP OF THE CALLER's, as far as its own side goes. -/
theorem PC.app (h : PC P B dead p k gs w t q ex r s c oc st sm sg d g)
    (hs : gs'.size = gs.size) (hg : ∀ m x, m ≠ 0 → ¬ ex m → gs'[m]? = some x → gs[m]? = some x) (hcal : ∃ a, gs'[0]? = some a ∧ CAt P B p sg' r' s' c' oc' sm' a g') (hw : w.heap.size ≤ w'.heap.size)
    (ha : AppOk B sg w.heap.size w'.heap.size (· = p.G) 0 u) (hd : Deaf (t ++ u) 0 = d') (hsat : Sat B sg' w') (hids : ∀ c' ∈ sg', (∃ c ∈ sg, c.b = c'.b ∧ c.own = c'.own) ∨ w.heap.size ≤ c'.b)
    (hsh : Sh p w' r' s' oc' c'.closed st' sm') (hrs : r' ≤ s') (hsl : s' ≤ p.All.length) (hco : Compl p s' c' oc') (hOl : p.O < w.heap.size) (hSl : p.S < w.heap.size) (hGl : p.G < w.heap.size) :
    PC P B dead p k gs' w' (t ++ u) q ex r' s' c' oc' st' sm' sg' d' g' := by
  have hil : 0 < gs.size := Nat.lt_of_le_of_lt (Nat.zero_le _) h.kl
  have htr := app_base h.com.tr ha hw h.kn h.compat
  refine ⟨h.com.next (.inl rfl) ha.gs hs hil hg hw htr, h.k0, by rw [hs]; exact h.kl, hcal, hd, hsat, ⟨fun x hx => ?_, fun x hx hdd => ?_⟩, h.geo, hsh, hrs, hsl, hco, fun i x hx hm => ?_⟩
  · rcases hids x hx with ⟨y, hy, hb, _⟩ | hb
    · exact hb ▸ h.sep.o y hy
    · exact ⟨by omega, by omega, by omega⟩
  · rcases hids x hx with ⟨y, hy, hb, _⟩ | hb
    · exact h.sep.nd y hy (hb ▸ hdd)
    · have := (h.com.deadlt _ hdd).2; omega
  · rcases app_me ha.gs h.kn i x hx hm with hk | ⟨hx', hb⟩
    · exact .inl hk
    · exact .inr (hb.imp (·.app u (touchAt_lt hx')) fun ho => ho.app u (touchAt_lt hx') hids fun a ha => h.com.tr.lowc hx' ha)

/-- .. and as far as the worker goes that is at work. -/
theorem WL.caller {tau : Tau WX} {gw : Goroutine} (h : WL P B dead p k gs w t r s c oc st sm sg tau gw) (k0 : k ≠ 0) (hsep : Sep dead p sg) (geo : Geo B dead p)
    (hwor : ∃ b, gs'[k]? = some b ∧ WAt P B tau c' r' b gw) (hst : stOf c' tau.x.ph = some (st', sm')) (hrel : c = .recv ∨ c' ≠ .recv)
    (hw : w.heap.size ≤ w'.heap.size) (ha : AppOk B sg w.heap.size w'.heap.size (· = p.G) 0 u) (hsat : Sat B sg' w') (hsatc : Sat B sg w) (hids : ∀ c' ∈ sg', (∃ c ∈ sg, c.b = c'.b ∧ c.own = c'.own) ∨ w.heap.size ≤ c'.b)
    (hfr : ∀ b, b < w.heap.size → ¬ Mine sg b → b ≠ p.O → b ≠ p.S → b ≠ p.G → w'.heap[b]? = w.heap[b]?) (hGl : p.G < w.heap.size) : WL P B dead p k gs' w' (t ++ u) r' s c' oc st' sm' sg' tau gw := by
  have hkn : ∀ c ∈ tau.sg, ¬ Mine sg c.b := fun c hc ⟨x, hx, hb, ho⟩ => by
    have := (h.dis x hx c hc hb).1
    rw [this] at ho; cases ho
  refine ⟨hwor, h.xp, h.xs, h.oc, hst, by rw [Deaf_other t (Ne.symm k0) u ha.gs]; exact h.deaf, ⟨hsat.os, hsat.out, hsat.size, hsat.low, fun x hx => ?_, h.sat.above, h.sat.nodup⟩, h.sep, fun x hx y hy e => ?_, fun e => ?_, fun i x hx hm => ?_, fun e => ?_⟩
  · obtain ⟨h1, h2, h3⟩ := h.sep.o x hx
    rw [hfr x.b (h.sat.lt x hx).2 (hkn x hx) h1 h2 h3]; exact h.sat.here x hx
  · rcases hids x hx with ⟨z, hz, hb, ho⟩ | hb
    · have := h.dis z hz y hy (hb.trans e); exact ⟨ho ▸ this.1, this.2⟩
    · have := (h.sat.lt y hy).2; omega
  · intro e'
    rcases hrel with hr | hr
    · exact h.stopped e hr
    · exact hr e'
  · rcases app_other (u := u) h.kn i x hx hm with hk | ⟨hx', hb⟩ | ⟨hi, op, hop, hio, hy⟩
    · exact .inl hk
    · exact .inr (hb.imp (·.app u (touchAt_lt hx')) fun ho => ho.app (n := 0) u (touchAt_lt hx') (fun z hz => .inl ⟨z, hz, rfl, rfl⟩) |> fun f => ⟨by rw [Go.Conc.g?_old (touchAt_lt hx')]; exact ho.1, ho.2⟩)
    · refine .inr (.inr ⟨by simp [Trace.g?, hio, ha.gs op hop], fun a hxa => ?_⟩)
      have hT := ha.touch op hop x hy
      cases hT with
      | own _ a' hya hown hB =>
        obtain rfl : a' = a := Loc.cell.inj (hya.symm.trans hxa)
        have hnk : ¬ Known tau.sg a'.block := by
          rintro ⟨z, hz, hb⟩
          rcases hown with ho | ho
          · exact hkn z hz (hb ▸ ho)
          · have := (h.sat.lt z hz).2; omega
        refine ⟨fun ⟨z, hz, hb, _⟩ => hnk ⟨z, hz, hb⟩, fun e => absurd e hnk, fun e => ?_⟩
        rcases hown with ⟨z, hz, hb, _⟩ | ho
        · exact absurd (hb.trans e) (hsep.o z hz).2.2
        · omega
      | read a' hr =>
        obtain rfl : a' = a := Loc.cell.inj hxa
        refine ⟨?_, fun _ => rfl, fun e => ?_⟩
        · rintro ⟨z, hz, hb, ho⟩
          rcases hr with ⟨y, hy', hb'⟩ | hr
          · have := (h.dis y hy' z hz (hb'.trans hb.symm)).2; rw [this] at ho; cases ho
          · have := h.sat.above z hz; omega
        · rcases hr with ⟨y, hy', hb'⟩ | hr
          · exact absurd (hb'.trans e) (hsep.o y hy').2.2
          · have := geo.bg; omega
      | obj r0 => cases hxa
      | grp _ a' hya hg hB hnp _ =>
        obtain rfl : a' = a := Loc.cell.inj (hya.symm.trans hxa)
        exact ⟨fun ⟨z, hz, hb, _⟩ => (h.sep.o z hz).2.2 (hb.trans hg), fun ⟨z, hz, hb⟩ => absurd (hb.trans hg) (h.sep.o z hz).2.2, fun _ => hnp⟩
  · obtain ⟨h1, h2⟩ := h.left e
    refine ⟨h1.keep (fun b hb hB hn => hfr b hb (fun ⟨z, hz, hzb, _⟩ => hn ⟨z, List.mem_append_left _ hz, hzb⟩)) (fun x hx => (List.mem_append.1 hx).elim (fun hx => (hids x hx).imp (fun ⟨z, hz, e⟩ => ⟨z, List.mem_append_left _ hz, e⟩) id) fun hx => .inl ⟨x, List.mem_append_right _ hx, rfl, rfl⟩), h2.app u fun j op x hj hop _ hg => ?_⟩
    rcases getElem?_append_cases hop with ⟨hlt, _⟩ | ⟨_, hu⟩
    · omega
    · exact absurd ((ha.gs op hu).symm.trans hg) (Ne.symm k0)
end

end Go.Proofs.Ytdmhgajamepgoaa.Q
