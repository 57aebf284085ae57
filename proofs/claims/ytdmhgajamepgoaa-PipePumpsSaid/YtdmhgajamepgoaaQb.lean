/-
  OWN TEXT. PIPE: WHAT THE CALLER AND THE WORKER MAY DO: their own steps, and the steps at what they share: the channel of results (O), the channel that says stop (S), the group (G).
-/
import Derived.Test.YtdmhgajamepgoaaQa
import Derived.Conc.MarkLaws
set_option linter.unusedVariables false
set_option linter.unusedSimpArgs false
set_option linter.unusedSectionVars false
namespace Go.Proofs.Ytdmhgajamepgoaa.Q
open Go Go.Conc

def KK : Int := 4294967296
def wgO (ty : TypeId) (st sm : Int) : Obj := .cells #[.int .u64 st, .int .u32 sm] ty
def stA (G : Nat) : Addr := ⟨G, 0, none⟩
def smA (G : Nat) : Addr := ⟨G, 1, none⟩
def rdE (a : Addr) : Event := ⟨.cell a, false, true⟩
def wrE (a : Addr) : Event := ⟨.cell a, true, true⟩
def mkE (m : Mark) : Event := ⟨.mark m, false, true⟩

/-- What a pumping is of: the blocks, the room, ALL that is sent if nobody says stop, and what the worker's memory is like at its end if s were sent; 'whole': the caller says stop only behind being told that O is closed. -/
structure PRec where
  O : Nat
  S : Nat
  G : Nat
  cap : Nat
  ty : TypeId
  All : List Value
  Fin : Nat → List Chunk → Prop
  whole : Bool

inductive CPh | recv | over | shut | shut0 | reg | reg2 | pass
inductive WPh | run (stopped : Bool) | shut | rel | d2 | d3 | d4
def WPh.released : WPh → Bool | .run _ | .shut => false | _ => true
inductive CX | alone | pump (p : PRec) (r : Nat) (c : CPh)
structure WX where
  p : PRec
  s : Nat
  ph : WPh

/-- Behind its release the worker touches nothing but the group. -/
def wstrict (x : WX) : Prop := x.ph.released = true
def cstrict (_ : CX) : Prop := False

section
variable (P : Program) (B : World)

/-- THE WORKER's steps at what is shared. -/
inductive WAct (t : Tau WX) (g : Goroutine) (K : KP WX) : Prop
  | poll (z : Value) : t.x.ph = .run false → t.d = 0 →
      (∀ w, Sat B t.sg w → stepG P false g w = .comm g #[rcase t.x.p.S z] false .select w #[]) →
      K t (Go.Conc.served g (.tuple #[goInt (-1), .bool false, z])) →
      (t.x.p.whole = false → K ⟨t.sg, t.d, ⟨t.x.p, t.x.s, .run true⟩⟩ (Go.Conc.served g (.tuple #[goInt 0, .bool false, z]))) → WAct t g K
  | send (v zo z : Value) : t.x.ph = .run false → t.d = 0 → t.x.p.All[t.x.s]? = some v →
      (∀ w, Sat B t.sg w → stepG P false g w = .comm g #[scase t.x.p.O v zo, rcase t.x.p.S z] true .select w #[]) →
      K ⟨t.sg, t.d, ⟨t.x.p, t.x.s + 1, .run false⟩⟩ (Go.Conc.served g (.tuple #[goInt 0, .bool false, z])) →
      (t.x.p.whole = false → K ⟨t.sg, t.d, ⟨t.x.p, t.x.s, .run true⟩⟩ (Go.Conc.served g (.tuple #[goInt 1, .bool false, z]))) → WAct t g K
  | close (st : Bool) (g' : Goroutine) : t.x.ph = .run st → t.d = 0 → (st = true ∨ t.x.s = t.x.p.All.length) → mayWake P g = true →
      (∀ w cap buf s r, Sat B t.sg w → w.heap[t.x.p.O]? = some (.chan cap buf false s r false) →
        stepG P false g w = .go g' { w with heap := w.heap.setIfInBounds t.x.p.O (.chan cap buf true s r false) } #[⟨.obj t.x.p.O, false, true⟩, ⟨.obj t.x.p.O, true, true⟩]) →
      K ⟨t.sg, t.d, ⟨t.x.p, t.x.s, .shut⟩⟩ g' → WAct t g K
  | rel (g' : Goroutine) (sw : List Chunk) : t.x.ph = .shut → t.d = 0 →
      (∀ w, Sat B t.sg w → stepG P false g w = .go g' w #[mkE (.releaseMerge (stA t.x.p.G))]) →
      (∀ c ∈ sw, c ∈ t.sg ∧ c.own = true) → (sw.map Chunk.b).Nodup → t.x.p.Fin t.x.s sw → K ⟨[], t.d, ⟨t.x.p, t.x.s, .rel⟩⟩ g' → WAct t g K
  | add : t.x.ph = .rel → 0 < t.d →
      (∀ w, Sat B t.sg w → w.heap[t.x.p.G]? = some (wgO t.x.p.ty KK 0) → ∃ g', stepG P false g w = .go g' (w.setCell (stA t.x.p.G) (.int .u64 0)) #[rdE (stA t.x.p.G), wrE (stA t.x.p.G)] ∧ ∃ q, QuitsD P q t.d g') →
      (∀ w, Sat B t.sg w → w.heap[t.x.p.G]? = some (wgO t.x.p.ty (KK + 1) 0) → ∃ g', stepG P false g w = .go g' (w.setCell (stA t.x.p.G) (.int .u64 1)) #[rdE (stA t.x.p.G), wrE (stA t.x.p.G)] ∧ K ⟨t.sg, t.d, ⟨t.x.p, t.x.s, .d2⟩⟩ g') → WAct t g K
  | load : t.x.ph = .d2 → 0 < t.d →
      (∀ w, Sat B t.sg w → w.heap[t.x.p.G]? = some (wgO t.x.p.ty 1 0) → ∃ g', stepG P false g w = .go g' w #[rdE (stA t.x.p.G)] ∧ K ⟨t.sg, t.d, ⟨t.x.p, t.x.s, .d3⟩⟩ g') → WAct t g K
  | store : t.x.ph = .d3 → 0 < t.d →
      (∀ w, Sat B t.sg w → w.heap[t.x.p.G]? = some (wgO t.x.p.ty 1 0) → ∃ g', stepG P false g w = .go g' (w.setCell (stA t.x.p.G) (.int .u64 0)) #[wrE (stA t.x.p.G)] ∧ K ⟨t.sg, t.d, ⟨t.x.p, t.x.s, .d4⟩⟩ g') → WAct t g K
  | sem : t.x.ph = .d4 → 0 < t.d → mayWake P g = true →
      (∀ w, Sat B t.sg w → w.heap[t.x.p.G]? = some (wgO t.x.p.ty 0 0) → ∃ g', stepG P false g w = .go g' (w.setCell (smA t.x.p.G) (.int .u32 1)) (semEvents (smA t.x.p.G)) ∧ ∃ q, QuitsD P q t.d g') → WAct t g K
  | look (g' : Goroutine) : t.x.ph = .shut → (∀ w st sm, Sat B t.sg w → w.heap[t.x.p.G]? = some (wgO t.x.p.ty st sm) → stepG P false g w = .go g' w #[]) → K t g' → WAct t g K

inductive WMv (t : Tau WX) (g : Goroutine) (K : KP WX) : Prop
  | own : OwnMv P false B wstrict t g K → WMv t g K
  | priv : PrivMv P false B t g K → WMv t g K
  | act : g.status = .running → WAct P B t g K → WMv t g K

theorem WAct.mono {t : Tau WX} {g : Goroutine} {K K' : KP WX} (hk : ∀ t g, K t g → K' t g) (h : WAct P B t g K) : WAct P B t g K' := by
  cases h with
  | poll z h0 h1 h2 h3 h4 => exact .poll z h0 h1 h2 (hk _ _ h3) (fun e => hk _ _ (h4 e))
  | send v zo z h0 h1 h2 h3 h4 h5 => exact .send v zo z h0 h1 h2 h3 (hk _ _ h4) (fun e => hk _ _ (h5 e))
  | close st g' h0 h1 h2 h3 h4 h5 => exact .close st g' h0 h1 h2 h3 h4 (hk _ _ h5)
  | rel g' sw h0 h1 h2 h3 h4 h5 h6 => exact .rel g' sw h0 h1 h2 h3 h4 h5 (hk _ _ h6)
  | add h0 h1 h2 h3 => exact .add h0 h1 h2 fun w hw hg => let ⟨g', a, b⟩ := h3 w hw hg; ⟨g', a, hk _ _ b⟩
  | load h0 h1 h2 => exact .load h0 h1 fun w hw hg => let ⟨g', a, b⟩ := h2 w hw hg; ⟨g', a, hk _ _ b⟩
  | store h0 h1 h2 => exact .store h0 h1 fun w hw hg => let ⟨g', a, b⟩ := h2 w hw hg; ⟨g', a, hk _ _ b⟩
  | sem h0 h1 h2 h3 => exact .sem h0 h1 h2 h3
  | look g' h0 h1 h2 => exact .look g' h0 h1 (hk _ _ h2)

theorem wmoves : Moves P false B wstrict (WMv P B) :=
  ⟨fun hk h => by
    cases h with
    | own h => exact .own (h.mono hk)
    | priv h => exact .priv (h.mono hk)
    | act hs h => exact .act hs (h.mono P B hk), .own, .priv⟩

variable (Post : Value → World → Prop)

/-- THE CALLER's steps at what is shared, where it begins a pumping, and its end. -/
inductive CAct (t : Tau CX) (g : Goroutine) (K : KP CX) : Prop
  | spawn (p : PRec) (sc sw : List Chunk) (g' child : Goroutine) : t.x = .alone → t.d = 0 →
      (∀ w, Sat B t.sg w → stepG P true g w = .spawn g' child w #[]) → g'.offers = none → child.status = .running → child.offers = none →
      (⟨p.O, .chan p.cap #[] false 0 0 false, true⟩ : Chunk) ∈ t.sg → (⟨p.S, .chan 0 #[] false 0 0 false, true⟩ : Chunk) ∈ t.sg → (⟨p.G, wgO p.ty KK 0, true⟩ : Chunk) ∈ t.sg →
      p.O ≠ p.S → 1 ≤ p.cap →
      (∀ c ∈ sc, c.b ≠ p.O ∧ c.b ≠ p.S ∧ c.b ≠ p.G ∧ ∃ c' ∈ t.sg, c'.b = c.b ∧ c'.o = c.o ∧ (c.own = true → c'.own = true)) →
      (∀ c ∈ sw, c.b ≠ p.O ∧ c.b ≠ p.S ∧ c.b ≠ p.G ∧ ∃ c' ∈ t.sg, c'.b = c.b ∧ c'.o = c.o ∧ (c.own = true → c'.own = true)) →
      (∀ c ∈ sc, ∀ c' ∈ sw, c.b = c'.b → c.own = false ∧ c'.own = false) → (sc.map Chunk.b).Nodup → (sw.map Chunk.b).Nodup →
      K ⟨sc, 0, .pump p 0 .recv⟩ g' → J (WMv P B) ⟨sw, 0, ⟨p, 0, .run false⟩⟩ child → CAct t g K
  | fin : t.x = .alone → t.d = 0 → (∀ w, Sat B t.sg w → ∃ v es, stepG P true g w = .ended (.done v) w es ∧ (∀ e ∈ es, EvOk B t.sg w.heap.size w.heap.size e) ∧ Post v w) → CAct t g K
  | recv (p : PRec) (r : Nat) (z : Value) : t.x = .pump p r .recv → t.d = 0 →
      (∀ w, Sat B t.sg w → stepG P true g w = .comm g #[rcase p.O z] true (.recv true) w #[]) →
      (∀ v, p.All[r]? = some v → K ⟨t.sg, t.d, .pump p (r + 1) .recv⟩ (Go.Conc.served g (.tuple #[v, .bool true]))) →
      (r = p.All.length → K ⟨t.sg, t.d, .pump p r .over⟩ (Go.Conc.served g (.tuple #[z, .bool false]))) → CAct t g K
  | close (p : PRec) (r : Nat) (c : CPh) (g' : Goroutine) : t.x = .pump p r c → (c = .recv ∧ p.whole = false ∨ c = .over) → t.d = 0 → mayWake P g = true →
      (∀ w, Sat B t.sg w → w.heap[p.S]? = some (.chan 0 #[] false 0 0 false) →
        stepG P true g w = .go g' { w with heap := w.heap.setIfInBounds p.S (.chan 0 #[] true 0 0 false) } #[⟨.obj p.S, false, true⟩, ⟨.obj p.S, true, true⟩]) →
      K ⟨t.sg, t.d, .pump p r .shut⟩ g' → CAct t g K
  | load (p : PRec) (r : Nat) : t.x = .pump p r .shut →
      (∀ w, Sat B t.sg w → w.heap[p.G]? = some (wgO p.ty KK 0) → ∃ g', stepG P true g w = .go g' w #[rdE (stA p.G)] ∧ K t g') →
      (∀ w, Sat B t.sg w → w.heap[p.G]? = some (wgO p.ty 0 0) → ∃ g', stepG P true g w = .go g' w #[rdE (stA p.G)] ∧ K ⟨t.sg, t.d, .pump p r .pass⟩ g') → CAct t g K
  | load0 (p : PRec) (r : Nat) : t.x = .pump p r .shut0 →
      (∀ w, Sat B t.sg w → w.heap[p.G]? = some (wgO p.ty 0 0) → ∃ g', stepG P true g w = .go g' w #[rdE (stA p.G)] ∧ K ⟨t.sg, t.d, .pump p r .pass⟩ g') → CAct t g K
  | cas (p : PRec) (r : Nat) : t.x = .pump p r .shut →
      (∀ w, Sat B t.sg w → w.heap[p.G]? = some (wgO p.ty KK 0) → ∃ g', stepG P true g w = .go g' (w.setCell (stA p.G) (.int .u64 (KK + 1))) #[rdE (stA p.G), wrE (stA p.G)] ∧ K ⟨t.sg, t.d, .pump p r .reg⟩ g') →
      (∀ w, Sat B t.sg w → w.heap[p.G]? = some (wgO p.ty 0 0) → ∃ g', stepG P true g w = .go g' w #[rdE (stA p.G)] ∧ K ⟨t.sg, t.d, .pump p r .shut0⟩ g') → CAct t g K
  | said (p : PRec) (r : Nat) (g' : Goroutine) : t.x = .pump p r .reg →
      (∀ w, Sat B t.sg w → stepG P true g w = .go g' w #[mkE (.write (smA p.G))]) → K t g' → CAct t g K
  | sem (p : PRec) (r : Nat) : t.x = .pump p r .reg → g.offers = none →
      (∀ w st, Sat B t.sg w → w.heap[p.G]? = some (wgO p.ty st 0) → stepG P true g w = .go { g with status := .blocked } w #[]) →
      (∀ w, Sat B t.sg w → w.heap[p.G]? = some (wgO p.ty 0 1) → ∃ g', stepG P true g w = .go g' (w.setCell (smA p.G) (.int .u32 0)) (semEvents (smA p.G)) ∧ K ⟨t.sg, t.d, .pump p r .reg2⟩ g') → CAct t g K
  | load2 (p : PRec) (r : Nat) : t.x = .pump p r .reg2 →
      (∀ w, Sat B t.sg w → w.heap[p.G]? = some (wgO p.ty 0 0) → ∃ g', stepG P true g w = .go g' w #[rdE (stA p.G)] ∧ K ⟨t.sg, t.d, .pump p r .pass⟩ g') → CAct t g K
  | acq (p : PRec) (r : Nat) (g' : Goroutine) : t.x = .pump p r .pass → t.d = 0 →
      (∀ w, Sat B t.sg w → stepG P true g w = .go g' w #[mkE (.acquire (stA p.G))]) →
      (∀ s sw, r ≤ s → s ≤ p.All.length → p.Fin s sw → ((t.sg ++ sw).map Chunk.b).Nodup → (∀ c ∈ sw, c.own = true) → K ⟨t.sg ++ sw, 0, .alone⟩ g') → CAct t g K
  | look (p : PRec) (r : Nat) (c : CPh) (g' : Goroutine) : t.x = .pump p r c → c ≠ .recv →
      (∀ w st sm, Sat B t.sg w → w.heap[p.G]? = some (wgO p.ty st sm) → stepG P true g w = .go g' w #[]) → K t g' → CAct t g K

inductive CMv (t : Tau CX) (g : Goroutine) (K : KP CX) : Prop
  | own : OwnMv P true B cstrict t g K → CMv t g K
  | priv : PrivMv P true B t g K → CMv t g K
  | act : g.status = .running → CAct P B Post t g K → CMv t g K

theorem CAct.mono {t : Tau CX} {g : Goroutine} {K K' : KP CX} (hk : ∀ t g, K t g → K' t g) (h : CAct P B Post t g K) : CAct P B Post t g K' := by
  cases h with
  | spawn p sc sw g' child h0 h1 h2 h3 h4 h5 h6 h7 h8 h9 h10 h11 h12 h13 h14 h15 h16 h17 => exact .spawn p sc sw g' child h0 h1 h2 h3 h4 h5 h6 h7 h8 h9 h10 h11 h12 h13 h14 h15 (hk _ _ h16) h17
  | fin h0 h1 h2 => exact .fin h0 h1 h2
  | recv p r z h0 h1 h2 h3 h4 => exact .recv p r z h0 h1 h2 (fun v hv => hk _ _ (h3 v hv)) (fun x => hk _ _ (h4 x))
  | close p r c g' h0 h01 h1 h2 h3 h4 => exact .close p r c g' h0 h01 h1 h2 h3 (hk _ _ h4)
  | load p r h0 h1 h2 => exact .load p r h0 (fun w hw hg => let ⟨g', a, b⟩ := h1 w hw hg; ⟨g', a, hk _ _ b⟩) (fun w hw hg => let ⟨g', a, b⟩ := h2 w hw hg; ⟨g', a, hk _ _ b⟩)
  | load0 p r h0 h2 => exact .load0 p r h0 (fun w hw hg => let ⟨g', a, b⟩ := h2 w hw hg; ⟨g', a, hk _ _ b⟩)
  | cas p r h0 h1 h2 => exact .cas p r h0 (fun w hw hg => let ⟨g', a, b⟩ := h1 w hw hg; ⟨g', a, hk _ _ b⟩) (fun w hw hg => let ⟨g', a, b⟩ := h2 w hw hg; ⟨g', a, hk _ _ b⟩)
  | said p r g' h0 h1 h2 => exact .said p r g' h0 h1 (hk _ _ h2)
  | sem p r h0 h01 h1 h2 => exact .sem p r h0 h01 h1 (fun w hw hg => let ⟨g', a, b⟩ := h2 w hw hg; ⟨g', a, hk _ _ b⟩)
  | load2 p r h0 h2 => exact .load2 p r h0 (fun w hw hg => let ⟨g', a, b⟩ := h2 w hw hg; ⟨g', a, hk _ _ b⟩)
  | acq p r g' h0 h1 h2 h3 => exact .acq p r g' h0 h1 h2 fun s sw a b c d e => hk _ _ (h3 s sw a b c d e)
  | look p r c g' h0 h1 h2 h3 => exact .look p r c g' h0 h1 h2 (hk _ _ h3)

theorem cmoves : Moves P true B cstrict (CMv P B Post) :=
  ⟨fun hk h => by
    cases h with
    | own h => exact .own (h.mono hk)
    | priv h => exact .priv (h.mono hk)
    | act hs h => exact .act hs (h.mono P B Post hk), .own, .priv⟩
end

end Go.Proofs.Ytdmhgajamepgoaa.Q
