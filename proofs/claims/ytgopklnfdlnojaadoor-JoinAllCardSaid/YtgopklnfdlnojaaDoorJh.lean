/- What a joiner is fed, in plain Lean; how a new piece is laid beside those that wait. -/
import Derived.Test.YtgopklnfdlnojaaDoorJg
namespace Go.Proofs.YtgopklnfdlnojaaDoor.Jh
open Go.RowKit Go.Proofs.YtgopklnfdlnojaaDoor.Ga Go.Proofs.YtgopklnfdlnojaaDoor.My Go.Proofs.YtgopklnfdlnojaaDoor.Gb Go.Proofs.YtgopklnfdlnojaaDoor.Gp Go.Proofs.YtgopklnfdlnojaaDoor.Ja Go.Proofs.YtgopklnfdlnojaaDoor.Jb Go.Proofs.YtgopklnfdlnojaaDoor.Jc Go.Proofs.YtgopklnfdlnojaaDoor.Jd Go.Proofs.YtgopklnfdlnojaaDoor.Je Go.Proofs.YtgopklnfdlnojaaDoor.Jf Go.Proofs.YtgopklnfdlnojaaDoor.Jg Go.Proofs.YtgopklnfdlnojaaDoorW.PrintWords Go.Proofs.YtgopklnfdlnojaaDoorW.PrintLast Go.Proofs.YtgopklnfdlnojaaDoorW.PrintMore
set_option linter.unusedVariables false
set_option linter.unusedSimpArgs false

/-- A new entry among entries that rise. -/
def insK {α : Type} (x : Int × α) : List (Int × α) → List (Int × α)
  | [] => [x]
  | y :: r => if x.1 < y.1 then x :: y :: r else y :: insK x r
theorem insK_length {α : Type} (x : Int × α) : ∀ l, (insK x l).length = l.length + 1
  | [] => rfl
  | y :: r => by unfold insK; split <;> simp [insK_length x r]
theorem insK_mem {α : Type} (x y : Int × α) : ∀ l, y ∈ insK x l ↔ y = x ∨ y ∈ l
  | [] => by simp [insK]
  | z :: r => by
    unfold insK
    split
    · simp
    · simp only [List.mem_cons, insK_mem x y r]
      constructor
      · rintro (h | h | h)
        · exact .inr (.inl h)
        · exact .inl h
        · exact .inr (.inr h)
      · rintro (h | h | h)
        · exact .inr (.inl h)
        · exact .inl h
        · exact .inr (.inr h)
theorem insK_sorted {α : Type} (x : Int × α) : ∀ l : List (Int × α), l.Pairwise (fun p q => p.1 < q.1) → (∀ y ∈ l, y.1 ≠ x.1) → (insK x l).Pairwise (fun p q => p.1 < q.1)
  | [], _, _ => by simp [insK]
  | z :: r, h, hn => by
    obtain ⟨h1, h2⟩ := List.pairwise_cons.1 h
    unfold insK
    split
    · rename_i hlt
      refine List.pairwise_cons.2 ⟨fun y hy => ?_, h⟩
      rcases List.mem_cons.1 hy with e | e
      · rw [e]; exact hlt
      · have := h1 y e; omega
    · rename_i hlt
      have hz := hn z (by simp)
      refine List.pairwise_cons.2 ⟨fun y hy => ?_, insK_sorted x r h2 (fun y hy => hn y (by simp [hy]))⟩
      rcases (insK_mem x y r).1 hy with e | e
      · rw [e]; omega
      · exact h1 y e
theorem insK_all2 {α β : Type} {R : Int × α → Int × β → Prop} (hk : ∀ a b, R a b → b.1 = a.1) {x : Int × α} {y : Int × β} (hxy : R x y) : ∀ (xs : List (Int × α)) (ys : List (Int × β)), All2 R xs ys → All2 R (insK x xs) (insK y ys)
  | [], ys, h => by
    have : ys = [] := List.length_eq_zero_iff.1 h.1
    subst this
    exact ⟨rfl, fun j a b ha hb => by cases j <;> simp [insK] at ha hb; subst ha; subst hb; exact hxy⟩
  | z :: r, ys, h => by
    obtain ⟨u, us, rfl, hzu, hr⟩ := all2_cons h
    have e1 := hk _ _ hxy
    have e2 := hk _ _ hzu
    have cons : ∀ {a : Int × α} {b : Int × β} {l1 : List (Int × α)} {l2 : List (Int × β)}, R a b → All2 R l1 l2 → All2 R (a :: l1) (b :: l2) := by
      intro a b l1 l2 hab hs
      refine ⟨by simp [hs.1], fun j p q hp hq => ?_⟩
      cases j with
      | zero => simp at hp hq; subst hp; subst hq; exact hab
      | succ j => exact hs.2 j p q (by simpa using hp) (by simpa using hq)
    unfold insK
    by_cases hlt : x.1 < z.1
    · rw [if_pos hlt, if_pos (by rw [e1, e2]; exact hlt)]
      exact cons hxy (cons hzu hr)
    · rw [if_neg hlt, if_neg (by rw [e1, e2]; exact hlt)]
      exact cons hzu (insK_all2 hk hxy r us hr)
/-- What the map reads behind a store. -/
theorem put_ins (n : Int) (v : Value) (wv : List (Int × Value)) (h : ∀ x ∈ wv, x.1 ≠ n) : (mapD wv).put (.int .i64 n) (.held v) = mapD (insK (n, v) wv) := by
  have hf : (wv.map fun x => ((.int .i64 x.1 : Lit), (DataW.held x.2 : DataW Value))).filter (fun p => !p.1.sameKey (.int .i64 n)) = wv.map fun x => ((.int .i64 x.1 : Lit), (DataW.held x.2 : DataW Value)) := by
    refine List.filter_eq_self.2 ?_
    intro p hp
    obtain ⟨x, hx, rfl⟩ := List.mem_map.1 hp
    simpa [Lit.sameKey] using h x hx
  simp only [DataW.put, hf]
  have : ∀ l : List (Int × Value), DataW.insert ((.int .i64 n : Lit), (DataW.held v : DataW Value)) (l.map fun x => ((.int .i64 x.1 : Lit), (DataW.held x.2 : DataW Value))) = (insK (n, v) l).map fun x => ((.int .i64 x.1 : Lit), (DataW.held x.2 : DataW Value)) := by
    intro l
    induction l with
    | nil => rfl
    | cons z r ih =>
      simp only [List.map_cons, DataW.insert, insK, Lit.before]
      by_cases hlt : n < z.1
      · simp [hlt]
      · simp [hlt, ih]
  rw [this]

/-- Does a piece wait for the place? -/
def hasJ (J : Jn) (place : Int) : Bool := J.wait.any (fun p => p.1 == place)
theorem hasJ_false {J : Jn} {place : Int} (h : hasJ J place = false) : ∀ p ∈ J.wait, p.1 ≠ place := by
  intro p hp
  have := List.any_eq_false.1 h p hp
  simpa using this

/-- The place of a number on a link. -/
def placeJ (J : Jn) (link num : Int) : Int := J.last.getD link.toNat 0 + 1 + Int.tmod (Int.tmod (num - (J.last.getD link.toNat 0 + 1)) J.nm + J.nm) J.nm
theorem place_eq (p0 num nm : Int) (h : 0 < nm) : Int.tmod (Int.tmod (num - p0) nm + nm) nm = (num - p0) % nm := by
  have h1 := Int.tmod_lt_of_pos (num - p0) h
  have h2 : -nm < Int.tmod (num - p0) nm := Int.lt_tmod_of_pos _ h
  rw [Int.tmod_eq_emod_of_nonneg (by omega), Int.add_emod_right, Int.tmod_def, Int.sub_mul_emod_self_left]

structure Jf where
  J : Jn
  err : Int
def laidJ (J : Jn) (link : Int) (p : S29) : Jn :=
  let place := placeJ J link p.f2
  let J1 : Jn := { J with last := J.last.set link.toNat place }
  if !hasJ J place && decide (J.next ≤ place) then { J1 with wait := insK (place, p) J.wait } else J1
/-- A joiner behind a piece, its events yet to be taken; and the error. -/
def feedJ (J : Jn) (link : Int) (p : S29) : Jn × Int :=
  if link < 0 ∨ (J.last.length : Int) ≤ link then (J, 1)
  else if p.f2 < 0 ∨ J.nm ≤ p.f2 then (J, 5)
  else (thinJ J.room.toNat (runJ (laidJ J link p)), 0)

theorem ok_mono {J : Jn} {K K' : Int} (h : OkJ J K) (hK : K ≤ K') : OkJ J K' :=
  ⟨h.nm0, h.last0, fun x hx => ⟨(h.lastK x hx).1, by have := (h.lastK x hx).2; omega⟩, h.next0, by have := h.nextK; omega, fun p hp => ⟨(h.waitK p hp).1, by have := (h.waitK p hp).2.1; omega, (h.waitK p hp).2.2⟩, h.sort, h.data, h.most⟩
theorem place_bound {J : Jn} {K link : Int} {num : Int} (ok : OkJ J K) (h0 : 0 ≤ link) (h1 : link < J.last.length) : 0 ≤ placeJ J link num ∧ placeJ J link num ≤ K + J.nm ∧ J.last.getD link.toNat 0 < placeJ J link num ∧ placeJ J link num % J.nm = num % J.nm ∧ -1 ≤ J.last.getD link.toNat 0 ∧ J.last.getD link.toNat 0 ≤ K := by
  have hnm := ok.nm0
  have hm : J.last.getD link.toNat 0 ∈ J.last := by
    rw [List.getD_eq_getElem?_getD, List.getElem?_eq_getElem (by omega)]
    simp
  obtain ⟨b1, b2⟩ := ok.lastK _ hm
  have e : placeJ J link num = J.last.getD link.toNat 0 + 1 + (num - (J.last.getD link.toNat 0 + 1)) % J.nm := by unfold placeJ; rw [place_eq _ _ _ hnm]
  have b3 := Int.emod_nonneg (num - (J.last.getD link.toNat 0 + 1)) (by omega : J.nm ≠ 0)
  have b4 := Int.emod_lt_of_pos (num - (J.last.getD link.toNat 0 + 1)) hnm
  refine ⟨by omega, by omega, by omega, ?_, b1, b2⟩
  rw [e, Int.add_emod, Int.emod_emod_of_dvd _ (Int.dvd_refl _), ← Int.add_emod]
  congr 1
  omega
theorem laid_ok {J : Jn} {K link : Int} {p : S29} (ok : OkJ J K) (h0 : 0 ≤ link) (h1 : link < J.last.length) (hp : p.f3.length ≤ 1000) : OkJ (laidJ J link p) (K + J.nm) ∧ (laidJ J link p).wait.length ≤ J.wait.length + 1 ∧ (laidJ J link p).evs = J.evs := by
  obtain ⟨b0, b1, b2, b3, b4, b5⟩ := place_bound (num := p.f2) ok h0 h1
  have hnm := ok.nm0
  have ok' := ok_mono ok (K' := K + J.nm) (by omega)
  have hl0 : J.last.set link.toNat (placeJ J link p.f2) ≠ [] := fun e => ok.last0 (by simpa using congrArg List.length e)
  have hlK : ∀ x ∈ J.last.set link.toNat (placeJ J link p.f2), -1 ≤ x ∧ x ≤ K + J.nm := by
    intro x hx
    rcases List.mem_or_eq_of_mem_set hx with e | e
    · exact ok'.lastK x e
    · rw [e]; omega
  unfold laidJ
  simp only
  split
  · rename_i hc
    simp only [Bool.and_eq_true, Bool.not_eq_true', decide_eq_true_eq] at hc
    refine ⟨⟨ok.nm0, hl0, hlK, ok'.next0, ok'.nextK, ?_, insK_sorted _ _ ok.sort (hasJ_false hc.1), ok.data, ok.most⟩, by simp [insK_length], rfl⟩
    intro x hx
    rcases (insK_mem _ x _).1 hx with e | e
    · subst e; exact ⟨hc.2, b1, hp⟩
    · exact ok'.waitK x e
  · exact ⟨⟨ok.nm0, hl0, hlK, ok'.next0, ok'.nextK, ok'.waitK, ok.sort, ok.data, ok.most⟩, by simp, rfl⟩

end Go.Proofs.YtgopklnfdlnojaaDoor.Jh
