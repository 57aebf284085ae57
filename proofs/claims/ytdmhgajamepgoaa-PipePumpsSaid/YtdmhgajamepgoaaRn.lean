/-
  OWN TEXT. PIPE: RULES, (5): append, of a row of ints of one's own.
-/
import Derived.Test.YtdmhgajamepgoaaRg
import Derived.Conc.AppendEvents2
import Derived.Conc.AppendWalk
set_option linter.unusedVariables false
set_option linter.unusedSimpArgs false
set_option linter.unusedSectionVars false
namespace Go.Proofs.Ytdmhgajamepgoaa.Q
open Go Go.Conc

section
variable {P : Program}
/-- A plain read of a cell whose block is of this kind. -/
def rdIn (B : Nat → Prop) (e : Event) : Prop := ∃ ad : Addr, e = ⟨.cell ad, false, false⟩ ∧ B ad.block
theorem ev_load_at (w : World) (a : Addr) (es : Array Event) {u : Value} (hu : w.cell? a = some u) : ∀ ev ∈ (load a).events P w es, ev ∈ es ∨ ev = ⟨.cell a, false, false⟩ := by
  intro ev h
  rw [events_load, hu] at h
  rcases Array.mem_push.1 h with h | rfl
  · exact .inl h
  · exact .inr rfl
theorem ev_loadCellsFrom_at (a : Addr) (B : Nat → Prop) (hB : B a.block) : ∀ (n i : Nat) (acc : Array Value) (w : World) (es : Array Event), (∀ j, j < n → (w.cell? (a.add (i + j))).isSome) →
    ∀ ev ∈ (loadCellsFrom a i n acc).events P w es, ev ∈ es ∨ rdIn B ev
  | 0, _, _, _, _, _ => fun ev h => .inl (by simpa [loadCellsFrom] using h)
  | n + 1, i, acc, w, es, hc => fun ev h => by
    simp only [loadCellsFrom, Sem.events_bind] at h
    obtain ⟨u, hu⟩ := Option.isSome_iff_exists.1 (hc 0 (by omega))
    simp only [Nat.add_zero] at hu
    have hr : (load (a.add i)).run P w = .ok u w := by simp [hu]
    rw [hr] at h
    rcases ev_loadCellsFrom_at a B hB n (i + 1) (acc.push u) w _ (fun j hj => by have := hc (j + 1) (by omega); rwa [show i + (j + 1) = i + 1 + j by omega] at this) ev h with h | h
    · rcases ev_load_at w _ es hu ev h with h | h1
      · exact .inl h
      · exact .inr ⟨_, h1, by have : (a.add i).block = a.block := by unfold Addr.add; split <;> rfl
                              rw [this]; exact hB⟩
    · exact .inr h
theorem ev_firstCells_in (B : Nat → Prop) (size n : Nat) (x : Value) (w : World) (es : Array Event)
    (hx : ∀ a l c, x = .slice (some a) l c → (n * size ≠ 0 → B a.block) ∧ ∀ j, j < n * size → (w.cell? (a.add j)).isSome) : ∀ ev ∈ (Builtin.firstCells size n x).events P w es, ev ∈ es ∨ rdIn B ev := by
  intro ev h
  unfold Builtin.firstCells at h
  split at h
  · rename_i a l c
    obtain ⟨h1, h2⟩ := hx a l c rfl
    by_cases h0 : n * size = 0
    · rw [h0] at h
      exact .inl (by simpa [loadCells, loadCellsFrom] using h)
    · exact ev_loadCellsFrom_at a B (h1 h0) _ 0 _ w es (fun j hj => by simpa using h2 j hj) ev h
  · exact .inl h
  · exact .inl h
  · exact .inl h
theorem evStoreCells_at (g o : Nat) (t : TypeId) : ∀ (vs : List Value) (i : Nat) (cur : Array Value) (w : World) (es : Array Event), w.heap[g]? = some (.cells cur t (0, 0)) → o + i + vs.length ≤ cur.size → (∀ v ∈ vs, v.oneCell' = true) →
    ∀ ev ∈ (storeCells ⟨g, o, none⟩ vs i).events P w es, ev ∈ es ∨ ∃ (ad : Addr) (wr sy : Bool), ev = ⟨.cell ad, wr, sy⟩ ∧ ad.block = g :=
  fun vs i cur w es h1 h2 h3 ev hev => (events_storeCells_at g o t vs i cur w es h1 h2 h3 ev hev).imp id fun ⟨ad, e1, e2⟩ => ⟨ad, ev.write, ev.sync, by rw [← e1], e2⟩
theorem isSome_list {w : World} {a : Addr} {cs : List Value} (h : ∀ j u, cs[j]? = some u → w.cell? (a.add j) = some u) {j : Nat} (hj : j < cs.length) : (w.cell? (a.add j)).isSome := by
  rw [h j cs[j] (List.getElem?_eq_getElem hj)]; rfl
end

/-- What stands in a world of a row of ints. -/
def RowW (w : World) (v : Value) (L : List Int) : Prop :=
  (v = .slice none 0 0 ∧ L = []) ∨ ∃ g C, v = .slice (some ⟨g, 0, none⟩) L.length C.size ∧ w.heap[g]? = some (.cells C 3) ∧ L.length ≤ C.size ∧ C.size ≤ maxLen ∧ C.toList.take L.length = L.map iv
/-- A row of ints of one's own. -/
def OwnRow (s : List Chunk) (v : Value) (L : List Int) : Prop :=
  (v = .slice none 0 0 ∧ L = []) ∨ ∃ g C, v = .slice (some ⟨g, 0, none⟩) L.length C.size ∧ (⟨g, .cells C 3, true⟩ : Chunk) ∈ s ∧ L.length ≤ C.size ∧ C.size ≤ maxLen ∧ C.toList.take L.length = L.map iv

def NewB (w : World) (ob : Obj) (w' : World) : Prop := w'.os = w.os ∧ w'.output = w.output ∧ w'.heap = w.heap.push ob
theorem upd_setRow (w : World) (g : Nat) (C C' : Array Value) (ty : TypeId) (h : w.heap[g]? = some (.cells C ty)) : Upd w g (.cells C' ty) (w.setRow g C') := by
  refine ⟨rfl, rfl, ?_⟩
  apply Array.ext_getElem?
  intro j
  by_cases hj : g = j
  · subst hj
    rw [setRow_heap w g C C' ty _ h, Array.getElem?_setIfInBounds_self_of_lt (Array.getElem?_eq_some_iff.1 h).1]
  · rw [setRow_other w g j C' (Ne.symm hj), Array.getElem?_setIfInBounds_ne hj]

theorem iv_one (L : List Int) : ∀ u ∈ L.map iv, u.oneCell' = true := by
  intro u hu
  obtain ⟨n, _, rfl⟩ := List.mem_map.1 hu
  rfl

inductive Appended (w : World) (v : Value) (L news : List Int) (v' : Value) (w' : World) : Prop
  | same : v' = v → w' = w → news = [] → Appended w v L news v' w'
  | room (g : Nat) (C C' : Array Value) : v = .slice (some ⟨g, 0, none⟩) L.length C.size → w.heap[g]? = some (.cells C 3) → v' = .slice (some ⟨g, 0, none⟩) (L ++ news).length C'.size → Upd w g (.cells C' 3) w' →
      (L ++ news).length ≤ C'.size → C'.size ≤ maxLen → C'.toList.take (L ++ news).length = (L ++ news).map iv → Appended w v L news v' w'
  | grown (C' : Array Value) : v' = .slice (some ⟨w.heap.size, 0, none⟩) (L ++ news).length C'.size → NewB w (.cells C' 3) w' →
      (L ++ news).length ≤ C'.size → C'.size ≤ maxLen → C'.toList.take (L ++ news).length = (L ++ news).map iv → Appended w v L news v' w'

theorem i3 : ∃ i, Try.prog.info? 3 = some i ∧ i.zero = some (.int .i64 0) ∧ i.size = 1 ∧ i.bytes = 8 := ⟨_, by rfl, by rfl, by rfl, by rfl⟩

theorem run_app (w : World) (ty : TypeId) (v : Value) (L news : List Int) (hv : RowW w v L) (xa : Option Addr) (c : Nat)
    (hnews : ∀ j u, (news.map iv)[j]? = some u → ∃ a, xa = some a ∧ w.cell? (a.add j) = some u) (hlen : L.length + news.length ≤ 1099511627776) :
    ∃ v' w', (Builtin.append_ #[28, 28] ty #[v, .slice xa news.length c]).run Try.prog w = .ok v' w' ∧ Appended w v L news v' w' := by
  obtain ⟨i, hi, hz, hsz, hby⟩ := i3
  have ht : Try.prog.underlying 28 = some (.slice 3) := by rfl
  cases xa with
  | none =>
    obtain rfl : news = [] := by
      cases news with
      | nil => rfl
      | cons n news => obtain ⟨a, h, _⟩ := hnews 0 (iv n) rfl; cases h
    refine ⟨v, w, ?_, .same rfl rfl rfl⟩
    rcases hv with ⟨rfl, rfl⟩ | ⟨g, C, rfl, hg, hle, hmax, htake⟩
    · simp [Builtin.append_, run_underlying ht, sizeOf, typeInfo, hi, Builtin.lenOf, Builtin.firstCells]
    · simp [Builtin.append_, run_underlying ht, sizeOf, typeInfo, hi, Builtin.lenOf, Builtin.firstCells, hle, storeCells]
  | some a =>
    replace hnews : ∀ j u, (news.map iv)[j]? = some u → w.cell? (a.add j) = some u := fun j u h => by obtain ⟨a', e, h⟩ := hnews j u h; cases e; exact h
    have hl : (news.map iv).length = news.length * i.size := by rw [hsz]; simp
    rcases hv with ⟨rfl, rfl⟩ | ⟨g, C, rfl, hg, hle, hmax, htake⟩
    · by_cases h0 : news.length = 0
      · obtain rfl : news = [] := List.eq_nil_of_length_eq_zero h0
        refine ⟨.slice none 0 0, w, ?_, .same rfl rfl rfl⟩
        simp [Builtin.append_, run_underlying ht, sizeOf, typeInfo, hi, Builtin.lenOf, Builtin.firstCells, loadCells, loadCellsFrom]
      · have hge := grownCap_ge w news.length 0 3
        have hcm := grownCap_le_maxLen w news.length 0 3 (by simp at hlen; simp only [maxLen]; omega)
        have hsize : ((news.map iv).toArray ++ Builtin.zeroCells (Value.int .i64 0).cells (grownCap w news.length 0 3 - news.length)).size = grownCap w news.length 0 3 := by
          simp [size_zeroCells, Value.cells]; omega
        refine ⟨_, _, run_append_nil (P := Try.prog) w 28 ty 3 i (.int .i64 0) ht hi hz a news.length c (news.map iv) hl hnews (by omega) (by simp at hlen; omega) (by rw [hby]; simp at hlen; omega), .grown _ ?_ ⟨rfl, rfl, rfl⟩ ?_ ?_ ?_⟩
        · rw [hsize]; rfl
        · rw [hsize]; exact hge
        · rw [hsize]; exact hcm
        · simp [List.take_of_length_le]
    · by_cases hroom : L.length + news.length ≤ C.size
      · have hr := run_append_room (P := Try.prog) w 28 ty 3 i ht hi g L.length C.size C hg a news.length c (news.map iv) hl hnews (iv_one news) hroom (by rw [hsz]; simp; omega)
        have hs : (C.toList.take (L.length * i.size) ++ news.map iv ++ C.toList.drop (L.length * i.size + (news.map iv).length)).toArray.size = C.size := by
          rw [hsz]; simp; omega
        refine ⟨_, _, hr, .room g C _ rfl hg ?_ (upd_setRow w g C _ 3 hg) ?_ ?_ ?_⟩
        · rw [hs]; simp
        · rw [hs]; simpa using hroom
        · rw [hs]; exact hmax
        · rw [hsz, Nat.mul_one, htake]
          rw [← List.map_append]
          have e : (L ++ news).length = ((L ++ news).map iv).length := by simp
          rw [e]
          simp only []
          exact List.take_left
      · have holds : ∀ j u, (L.map iv)[j]? = some u → w.cell? ((⟨g, 0, none⟩ : Addr).add j) = some u := by
          intro j u hj
          have hadd : (⟨g, 0, none⟩ : Addr).add j = ⟨g, j, none⟩ := by unfold Addr.add; split <;> simp_all
          rw [hadd]
          rw [← htake, List.getElem?_take] at hj
          split at hj
          · simpa [World.cell?, hg] using hj
          · cases hj
        have hge := grownCap_ge w (L.length + news.length) C.size 3
        have hcm := grownCap_le_maxLen w (L.length + news.length) C.size 3 (by simp only [maxLen]; omega)
        have hr := run_append_grow (P := Try.prog) w 28 ty 3 i (.int .i64 0) ht hi hz ⟨g, 0, none⟩ L.length C.size (L.map iv) (by rw [hsz]; simp) holds a news.length c (news.map iv) hl hnews (by omega) (by omega) (growslice_fits (by omega) (by rw [hby]; omega))
        have hsize : ((L.map iv).toArray ++ (news.map iv).toArray ++ Builtin.zeroCells (Value.int .i64 0).cells (grownCap w (L.length + news.length) C.size 3 - (L.length + news.length))).size = grownCap w (L.length + news.length) C.size 3 := by
          simp [size_zeroCells, Value.cells]; omega
        refine ⟨_, _, hr, .grown _ ?_ ⟨rfl, rfl, rfl⟩ ?_ ?_ ?_⟩
        · rw [hsize]; simp
        · rw [hsize]; simpa using hge
        · rw [hsize]; exact hcm
        · have e : (L ++ news).length = ((L ++ news).map iv).length := by simp
          rw [e, List.map_append]
          simp only [Array.toList_append]
          exact List.take_left

/-- What append may list. -/
def AppEv (v : Value) (news : List Int) (xa : Option Addr) (ev : Event) : Prop :=
  (∃ ad a : Addr, ev = ⟨.cell ad, false, false⟩ ∧ xa = some a ∧ ad.block = a.block ∧ news ≠ []) ∨ (∃ (ad : Addr) (wr sy : Bool), ev = ⟨.cell ad, wr, sy⟩ ∧ some ad.block = v.ownBlock) ∨ ev = ⟨.mark .noRoom, false, true⟩

set_option maxHeartbeats 1000000 in
theorem ev_app (w : World) (ty : TypeId) (v : Value) (L news : List Int) (hv : RowW w v L) (xa : Option Addr) (c : Nat)
    (hnews : ∀ j u, (news.map iv)[j]? = some u → ∃ a, xa = some a ∧ w.cell? (a.add j) = some u) (hlen : L.length + news.length ≤ 1099511627776) :
    ∀ ev ∈ (Builtin.append_ #[28, 28] ty #[v, .slice xa news.length c]).events Try.prog w #[], AppEv v news xa ev := by
  obtain ⟨i, hi, hz, hsz, hby⟩ := i3
  have ht : Try.prog.underlying 28 = some (.slice 3) := by rfl
  intro ev hev
  cases xa with
  | none =>
    obtain rfl : news = [] := by
      cases news with
      | nil => rfl
      | cons n news => obtain ⟨a, h, _⟩ := hnews 0 (iv n) rfl; cases h
    exfalso
    rcases hv with ⟨rfl, rfl⟩ | ⟨g, C, rfl, hg, hle, hmax, htake⟩
    · simp [Builtin.append_, run_underlying ht, sizeOf, typeInfo, hi, Builtin.lenOf, Builtin.firstCells] at hev
    · simp [Builtin.append_, run_underlying ht, sizeOf, typeInfo, hi, Builtin.lenOf, Builtin.firstCells, hle, storeCells] at hev
  | some a =>
    replace hnews : ∀ j u, (news.map iv)[j]? = some u → w.cell? (a.add j) = some u := fun j u h => by obtain ⟨a', e, h⟩ := hnews j u h; cases e; exact h
    have hl : (news.map iv).length = news.length * i.size := by rw [hsz]; simp
    let B : Nat → Prop := fun g => (g = a.block ∧ news ≠ []) ∨ some g = v.ownBlock
    have fin : ∀ ev : Event, rdIn B ev → AppEv v news (some a) ev := fun ev ⟨ad, e, h⟩ => h.elim (fun h => .inl ⟨ad, a, e, rfl, h.1, h.2⟩) fun h => .inr (.inl ⟨ad, _, _, e, h⟩)
    have none0 : ∀ e ∈ (#[] : Array Event), AppEv v news (some a) e := by intro e he; simp at he
    have mk : ∀ ev : Event, (∃ m, ev = ⟨.mark m, false, true⟩ ∧ Conc.Neutral m) → AppEv v news (some a) ev := fun ev ⟨m, e, h⟩ => by
      unfold Conc.Neutral at h; subst h; exact .inr (.inr e)
    have src : ∀ (w' : World), (∀ ad, w'.cell? ad = w.cell? ad) → ∀ a' l' c', Value.slice (some a) news.length c = .slice (some a') l' c' → (news.length * i.size ≠ 0 → B a'.block) ∧ ∀ j, j < news.length * i.size → (w'.cell? (a'.add j)).isSome := by
      intro w' hw' a' l' c' e
      cases e
      exact ⟨fun h0 => .inl ⟨rfl, fun e => by subst e; simp at h0⟩, fun j hj => by rw [hw']; exact isSome_list hnews (by rw [hl]; exact hj)⟩
    have nil : ∀ (w' : World) (k sz l₀ c₀ : Nat) a' l' c', Value.slice none l₀ c₀ = .slice (some a') l' c' → (k * sz ≠ 0 → B a'.block) ∧ ∀ j, j < k * sz → (w'.cell? (a'.add j)).isSome := by
      intro _ _ _ _ _ _ _ _ e; cases e
    rcases hv with ⟨rfl, rfl⟩ | ⟨g, C, rfl, hg, hle, hmax, htake⟩
    · by_cases hm : news.length = 0
      · simp [Builtin.append_, run_underlying ht, sizeOf, typeInfo, hi, Builtin.lenOf, hm] at hev
        refine (ev_firstCells_in B _ _ _ _ _ ?_ ev hev).elim (none0 ev) (fin ev)
        intro a' l' c' e
        have := src w (fun _ => rfl) a' l' c' (by rw [← e, hm])
        rw [hm] at this; exact this
      · have h63' : ¬ (9223372036854775807 < (news.length : Int)) := by omega
        have h48' : ¬ (281474976710656 < Builtin.nextslicecap news.length 0 * i.bytes) := by rw [nextslicecap_zero (by omega), hby]; simp at hlen; omega
        have hf := run_firstCells_some (P := Try.prog) w.drew i.size news.length a news.length c (news.map iv) hl (by simpa using hnews)
        simp [Builtin.append_, run_underlying ht, sizeOf, typeInfo, zeroValue, hi, hz, Builtin.lenOf, hm, h63', h48', Question.forced, run_firstCells_none, hf, newRow] at hev
        refine (ev_firstCells_in B _ _ _ _ _ (by first | exact src _ (fun _ => rfl) | exact nil _ _ _ _ _) ev hev).elim (fun h => ?_) (fin ev)
        refine (ev_firstCells_in B _ _ _ _ _ (by first | exact src _ (fun _ => rfl) | exact nil _ _ _ _ _) ev h).elim (fun h2 => ?_) (fin ev)
        exact (Conc.events_askRoom _ _ _ ev h2).elim (none0 ev) (mk ev)
    · have holds : ∀ j u, (L.map iv)[j]? = some u → w.cell? ((⟨g, 0, none⟩ : Addr).add j) = some u := by
        intro j u hj
        have hadd : (⟨g, 0, none⟩ : Addr).add j = ⟨g, j, none⟩ := by unfold Addr.add; split <;> simp_all
        rw [hadd]
        rw [← htake, List.getElem?_take] at hj
        split at hj
        · simpa [World.cell?, hg] using hj
        · cases hj
      have hlo : (L.map iv).length = L.length * i.size := by rw [hsz]; simp
      have own : ∀ (w' : World), (∀ ad, w'.cell? ad = w.cell? ad) → ∀ a' l' c', Value.slice (some ⟨g, 0, none⟩) L.length C.size = .slice (some a') l' c' → (L.length * i.size ≠ 0 → B a'.block) ∧ ∀ j, j < L.length * i.size → (w'.cell? (a'.add j)).isSome := by
        intro w' hw' a' l' c' e
        cases e
        exact ⟨fun _ => .inr (by simp [Value.ownBlock]), fun j hj => by rw [hw']; exact isSome_list holds (by rw [hlo]; exact hj)⟩
      by_cases hroom : L.length + news.length ≤ C.size
      · have hfit : L.length * i.size + (news.map iv).length ≤ C.size := by rw [hsz]; simp; omega
        have hf := run_firstCells_some (P := Try.prog) w i.size news.length a news.length c (news.map iv) hl hnews
        simp [Builtin.append_, run_underlying ht, sizeOf, typeInfo, hi, Builtin.lenOf, hroom, hf, Addr.add_lit] at hev
        rcases evStoreCells_at g (L.length * i.size) 3 (news.map iv) 0 C w _ hg (by simpa using hfit) (iv_one news) ev hev with h | ⟨ad, wr, sy, h2, h3⟩
        · exact (ev_firstCells_in B _ _ _ _ _ (by first | exact src _ (fun _ => rfl) | exact own _ (fun _ => rfl)) ev h).elim (none0 ev) (fin ev)
        · exact .inr (.inl ⟨ad, wr, sy, h2, by simp [Value.ownBlock, h3]⟩)
      · have h63' : ¬ (9223372036854775807 < ((L.length : Int) + (news.length : Int))) := by omega
        have h48' : ¬ (281474976710656 < Builtin.nextslicecap (L.length + news.length) C.size * i.bytes) := by have := growslice_fits (need := L.length + news.length) (old := C.size) (bytes := i.bytes) (by omega) (by rw [hby]; omega); omega
        have hf := run_firstCells_some (P := Try.prog) w.drew i.size news.length a news.length c (news.map iv) hl (by simpa using hnews)
        have hfo := run_firstCells_some (P := Try.prog) w.drew i.size L.length ⟨g, 0, none⟩ L.length C.size (L.map iv) hlo (by simpa using holds)
        simp [Builtin.append_, run_underlying ht, sizeOf, typeInfo, zeroValue, hi, hz, Builtin.lenOf, hroom, h63', h48', Question.forced, hf, hfo, newRow] at hev
        refine (ev_firstCells_in B _ _ _ _ _ (by first | exact src _ (fun _ => rfl) | exact own _ (fun _ => rfl)) ev hev).elim (fun h => ?_) (fin ev)
        refine (ev_firstCells_in B _ _ _ _ _ (by first | exact src _ (fun _ => rfl) | exact own _ (fun _ => rfl)) ev h).elim (fun h2 => ?_) (fin ev)
        exact (Conc.events_askRoom _ _ _ ev h2).elim (none0 ev) (mk ev)

theorem OwnRow.world {B : World} {s : List Chunk} {w : World} (h : Sat B s w) {v : Value} {L : List Int} (hv : OwnRow s v L) : RowW w v L :=
  hv.imp id fun ⟨g, C, e, hc, rest⟩ => ⟨g, C, e, h.obj hc, rest⟩
theorem OwnRow.mine {s : List Chunk} {v : Value} {L : List Int} (hv : OwnRow s v L) {g : Nat} (h : v.ownBlock = some g) : ∃ C, (⟨g, .cells C 3, true⟩ : Chunk) ∈ s := by
  rcases hv with ⟨rfl, _⟩ | ⟨g', C, rfl, hc, _⟩
  · cases h
  · cases h; exact ⟨C, hc⟩
theorem OwnRow.keep {s s' : List Chunk} {v : Value} {L : List Int} (hv : OwnRow s v L) (h : ∀ c ∈ s, v.ownBlock = some c.b → c ∈ s') : OwnRow s' v L :=
  hv.imp id fun ⟨g, C, e, hc, rest⟩ => ⟨g, C, e, h _ hc (by rw [e]; rfl), rest⟩
theorem OwnRow.row {B : World} {s : List Chunk} {v : Value} {L : List Int} (hv : OwnRow s v L) : RowAt B s v (L.map iv) := by
  rcases hv with ⟨rfl, rfl⟩ | ⟨g, C, rfl, hc, hle, _, ht⟩
  · exact ⟨none, 0, rfl, fun j u h => by simp at h⟩
  · refine ⟨some ⟨g, 0, none⟩, C.size, by simp, fun j u h => ⟨g, 0, rfl, .inl ⟨C, 3, true, hc, ?_⟩⟩⟩
    rw [← ht, List.getElem?_take] at h
    split at h
    · simpa using h
    · cases h

theorem RowAt.world {B : World} {s : List Chunk} {w : World} (h : Sat B s w) {v : Value} {L : List Value} (hv : RowAt B s v L) :
    ∃ xa c, v = .slice xa L.length c ∧ (∀ j u, L[j]? = some u → ∃ a, xa = some a ∧ w.cell? (a.add j) = some u) ∧ (∀ a, xa = some a → L ≠ [] → Known s a.block ∨ a.block < B.heap.size) := by
  obtain ⟨xa, c, e, h'⟩ := hv
  refine ⟨xa, c, e, fun j u hj => ?_, fun a ha hne => ?_⟩
  · obtain ⟨b, o, rfl, hr⟩ := h' j u hj
    refine ⟨_, rfl, ?_⟩
    have hadd : (⟨b, o, none⟩ : Addr).add j = ⟨b, o + j, none⟩ := by unfold Addr.add; split <;> simp_all
    rw [hadd]
    rcases hr with ⟨C, ty, own, hc, hj⟩ | ⟨C, ty, fr, hc, hj⟩
    · simp [World.cell?, h.obj hc, hj]
    · have hlt : b < B.heap.size := (Array.getElem?_eq_some_iff.1 hc).1
      simp [World.cell?, h.low b hlt, hc, hj]
  · obtain ⟨u, hu⟩ : ∃ u, L[0]? = some u := by
      cases L with
      | nil => exact absurd rfl hne
      | cons x L => exact ⟨x, rfl⟩
    obtain ⟨b, o, e', hr⟩ := h' 0 u hu
    rw [e'] at ha
    cases ha
    rcases hr with ⟨C, ty, own, hc, hj⟩ | ⟨C, ty, fr, hc, hj⟩
    · exact .inl ⟨_, hc, rfl⟩
    · exact .inr (Array.getElem?_eq_some_iff.1 hc).1

section
variable {X : Type} {main : Bool} {B : World} {Mv : MvT X} {strict : X → Prop} (M : Moves Try.prog main B strict Mv) {fn : FuncId} {Q : Exit → Act → Tau X → Prop} {a : Act} {t : Tau X}
include M

/-- What stands behind an append. -/
structure AppKeep (v v' : Value) (t t' : Tau X) : Prop where
  sg : ∀ c ∈ t.sg, (∀ g, v.ownBlock = some g → c.b ≠ g) → c ∈ t'.sg
  d : t'.d = t.d
  x : t'.x = t.x
  new : ∀ g, v'.ownBlock = some g → v.ownBlock = some g ∨ (∀ c ∈ t.sg, c.b ≠ g) ∧ B.heap.size ≤ g

theorem opsS_append {ops : Array Oper} {i : Nat} {rest : List Nat} {o : Oper} {x y : Operand} {v xv : Value} {L news : List Int} (hv : OwnRow t.sg v L) (hxv : RowAt B t.sg xv (news.map iv)) (hlen : L.length + news.length ≤ 1099511627776)
    (ho : ops[i]? = some o) (hw : Region.wanted o (yielded ops a.tmps) = true) (hns : ¬ strict t.x) (hop : o.op = .call { callee := .builtin .append, args := #[x, y], argTypes := #[28, 28] }) (hx : a.eval x = v) (hy : a.eval y = xv)
    (h : ∀ v' t', AppKeep (B := B) v v' t t' → OwnRow t'.sg v' (L ++ news) → OpsS Mv fn ops rest Q (a.put o.dst v') t') : OpsS Mv fn ops (i :: rest) Q a t := by
  refine opsS_cons M ho hw fun w hs => ?_
  obtain ⟨xa, c, rfl, hn1, hn2⟩ := hxv.world hs
  simp only [List.length_map] at hy
  obtain ⟨v', w', hr, hap⟩ := run_app w o.type v L news (hv.world hs) xa c hn1 hlen
  have hevs := ev_app w o.type v L news (hv.world hs) xa c hn1 hlen
  have hEv : ∀ e ∈ listed Try.prog fn a o w, EvOk B t.sg w.heap.size w'.heap.size e ∧ e.loc ≠ .mark .disable ∧ e.loc ≠ .mark .enable := fun e he => by
    have he' := mem_listed he
    rw [events_append_op x y 28 hop hx hy] at he'
    rcases hevs e he' with ⟨ad, a', rfl, rfl, hb, hne⟩ | ⟨ad, wr, sy, rfl, hb⟩ | rfl
    · exact ⟨.read _ (hb ▸ hn2 a' rfl (by simpa using hne)), by simp, by simp⟩
    · obtain ⟨C, hc⟩ := hv.mine hb.symm
      exact ⟨.own _ _ _ (.inl ⟨_, hc, rfl, rfl⟩), by simp, by simp⟩
    · exact ⟨.full, by simp, by simp⟩
  have hd : deafBehind t.d (listed Try.prog fn a o w) = t.d := deafBehind_still (fun e hm => (hEv e hm).2) _
  rw [hd]
  refine uponK_append x y 28 hop hx hy hr ?_
  cases hap with
  | same e1 e2 e3 =>
    subst e1 e2 e3
    exact ⟨t.sg, guar_still hs fun e he => (hEv e he).1, fun hx => absurd hx hns, h _ _ ⟨fun c hc _ => hc, rfl, rfl, fun g hg => .inl hg⟩ (by simpa using hv)⟩
  | room g C C' e1 e2 e3 hu h1 h2 h3 =>
    subst e1 e3
    obtain ⟨C0, hc⟩ := hv.mine (g := g) rfl
    have hsz : w'.heap.size = w.heap.size := by rw [hu.2.2]; simp
    refine ⟨setO t.sg g (.cells C' 3), guar_upd hs hc hu (fun e he => (hEv e he).1), fun hx => absurd hx hns, h _ _ ⟨fun c hc hne => mem_setO_ne hc (hne g rfl), rfl, rfl, fun g' hg' => .inl (by simpa [Value.ownBlock] using hg')⟩ (.inr ⟨g, C', rfl, mem_setO_self hc, h1, h2, h3⟩)⟩
  | grown C' e1 hu h1 h2 h3 =>
    subst e1
    have hsz : w'.heap.size = w.heap.size + 1 := by rw [hu.2.2]; simp
    have hold : ∀ b, b < w.heap.size → w'.heap[b]? = w.heap[b]? := fun b hb => by rw [hu.2.2, Array.getElem?_push, if_neg (by omega)]
    have hs' : Sat B (⟨w.heap.size, .cells C' 3, true⟩ :: t.sg) w' := by
      have := hs.alloc (.cells C' 3)
      refine ⟨hu.1.trans hs.os, hu.2.1.trans hs.out, by rw [hsz]; have := hs.size; omega, fun b hb => (hold b (Nat.lt_of_lt_of_le hb hs.size)).trans (hs.low b hb), fun c hc => ?_, this.above, this.nodup⟩
      rw [hu.2.2]
      exact this.here c hc
    exact ⟨_, ⟨hs', by omega, fun b hb _ => hold b hb, fun c hc => (List.mem_cons.1 hc).elim (fun e => .inr (by rw [e]; exact Nat.le_refl _)) fun hc => .inl ⟨c, hc, rfl, rfl⟩, fun e he => (hEv e he).1⟩, fun hx => absurd hx hns,
      h _ _ ⟨fun c hc _ => List.mem_cons_of_mem _ hc, rfl, rfl, fun g hg => by
        simp [Value.ownBlock] at hg
        subst hg
        exact .inr ⟨fun c hc e => by have := (hs.lt c hc).2; omega, hs.size⟩⟩ (.inr ⟨w.heap.size, C', rfl, List.mem_cons_self .., h1, h2, h3⟩)⟩
end

end Go.Proofs.Ytdmhgajamepgoaa.Q
