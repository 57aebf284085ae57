/- The least place for which a piece waits (ahead: 56), by the shelf's contracts of maps.Keys, slices.Collect and slices.Min. -/
import Derived.Shelf.SlIterI.Collect
import Derived.Shelf.SlicesG.Turned
import Derived.Shelf.SlGeneric
import Derived.Ground.GgzProg
import Derived.Ground.SlgnProg
import Derived.Test.YtgopklnfdlnojaaDoorJc
namespace Go.Proofs
open Go.RowKit Go.Maps Go.Sort Go.Shelf
shelf_lay_g SlLaysZI.n7 Ggz 7 at Tryd 63 as Tryd.jKeys
shelf_lay_g SlLaysZI.n8 Ggz 8 at Tryd 62 as Tryd.jColl
shelf_lay_g SlLaysN.n39 Slgn 39 at Tryd 59 as Tryd.jMin
end Go.Proofs
namespace Go.Proofs.YtgopklnfdlnojaaDoor.Jd
open Go.RowKit Go.Maps Go.Sort Go.Shelf Go.Proofs.YtgopklnfdlnojaaDoor.Ga Go.Proofs.YtgopklnfdlnojaaDoor.My Go.Proofs.YtgopklnfdlnojaaDoor.Gb Go.Proofs.YtgopklnfdlnojaaDoor.Gp Go.Proofs.YtgopklnfdlnojaaDoor.Ja Go.Proofs.YtgopklnfdlnojaaDoor.Jb Go.Proofs.YtgopklnfdlnojaaDoor.Jc Go.Proofs.YtgopklnfdlnojaaDoorW.PrintWords Go.Proofs.YtgopklnfdlnojaaDoorW.PrintLast Go.Proofs.YtgopklnfdlnojaaDoorW.PrintMore
set_option linter.unusedVariables false
set_option linter.unusedSimpArgs false

theorem foldl_min_le (zs : List Int) : ∀ a : Int, zs.foldl min a ≤ a ∧ (∀ z ∈ zs, zs.foldl min a ≤ z) ∧ (zs.foldl min a = a ∨ zs.foldl min a ∈ zs) := by
  induction zs with
  | nil => intro a; simp
  | cons z zs ih =>
    intro a
    obtain ⟨h1, h2, h3⟩ := ih (min a z)
    simp only [List.foldl_cons, List.mem_cons]
    refine ⟨by omega, ?_, ?_⟩
    · rintro y (rfl | hy)
      · omega
      · exact h2 y hy
    · rcases h3 with h | h
      · rcases Int.le_total a z with e | e
        · left; rw [h]; omega
        · right; left; rw [h]; omega
      · exact .inr (.inr h)
/-- The least of numbers that stand in some order is the first of them where they rise. -/
theorem min_perm {ss : List Int} {h : Int} {t : List Int} (hp : ss.Perm (h :: t)) (hs : (h :: t).Pairwise (· < ·)) : Lib.minOf ss = h := by
  have hm : h ∈ ss := hp.symm.subset (by simp)
  obtain ⟨z, zs, rfl⟩ : ∃ z zs, ss = z :: zs := by
    cases ss with
    | nil => simp at hm
    | cons z zs => exact ⟨z, zs, rfl⟩
  unfold Lib.minOf
  obtain ⟨h1, h2, h3⟩ := foldl_min_le (z :: zs) z
  simp only [List.headD_cons]
  have hle := h2 h hm
  have hin : (z :: zs).foldl min z ∈ h :: t := hp.subset (h3.elim (fun e => by rw [e]; exact List.mem_cons_self) id)
  rcases List.mem_cons.1 hin with e | e
  · exact e
  · have := (List.pairwise_cons.1 hs).1 _ e
    omega

/-- The places that wait, rising. -/
def places (J : Jn) : List Int := J.wait.map (·.1)
theorem places_sorted {W : World} {base g bm : Nat} {vl vd ve : Value} {wv : List (Int × Value)} {er : List (List Value)} {J : Jn} (h : JM W base g bm vl vd ve wv er J) : (places J).Pairwise (· < ·) := List.Pairwise.map _ (fun _ _ h => h) h.hsort
theorem places_wv {W : World} {base g bm : Nat} {vl vd ve : Value} {wv : List (Int × Value)} {er : List (List Value)} {J : Jn} (h : JM W base g bm vl vd ve wv er J) : wv.map (·.1) = places J := by
  obtain ⟨h1, h2⟩ := h.hwv
  refine List.ext_getElem? fun j => ?_
  simp only [places, List.getElem?_map]
  cases hj : J.wait[j]? with
  | none =>
    have := List.getElem?_eq_none_iff.1 hj
    rw [List.getElem?_eq_none_iff.2 (by omega)]
    rfl
  | some p =>
    have hl := (List.getElem?_eq_some_iff.1 hj).1
    have e2 : wv[j]? = some (wv[j]'(by omega)) := List.getElem?_eq_getElem _
    rw [e2]
    simp [(h2 j p _ hj e2).1]

set_option maxHeartbeats 1000000 in
set_option maxRecDepth 100000 in
theorem ahead_any (W : World) (base g bm : Nat) (vl vd ve : Value) (wv : List (Int × Value)) (er : List (List Value)) (J : Jn) (h : JM W base g bm vl vd ve wv er J) (hlen : J.wait.length ≤ 100000) :
    Calls Tryd.prog 56 #[.pointer (some ⟨g, 0, none⟩)] W fun e W' => (J.wait = [] ∧ e = .returned (.tuple #[.int .i64 0, .bool false]) ∧ W' = W) ∨
      (∃ p q, J.wait = p :: q ∧ e = .returned (.tuple #[.int .i64 p.1, .bool true]) ∧ Below W.heap.size W W') := by
  have HJ := Aside0.mk h
  have hg := h.hg
  have c4 := blk_cell hg 4
  simp at c4
  have hlw : wv.length = J.wait.length := h.hwv.1
  have hm := h.hmap
  have hpl := places_wv h
  have hps := places_sorted h
  clear h hg
  cases hjw : J.wait with
  | nil =>
    have hz : wv = [] := List.length_eq_zero_iff.1 (by rw [hlw, hjw]; rfl)
    subst hz
    have HP := Aside0.mk (And.intro hlw (And.intro hpl hps))
    clear hpl hps hlw hjw
    go_enter Tryd.func56, Tryd.ntmps56
    go_wp2_with (at_len; refine wpList_len_own _ rfl _ 99 rfl 3 29 Tryd.underlying99 elemR bm _ _ rfl hm ?_)
    go_ret2
    exact .inl ⟨trivial, rfl, rfl⟩
  | cons p q =>
    have cK : Calls Tryd.prog 63 #[.map (some bm)] W fun e w' => e = .returned (.func (.func 66) #[] #[.pointer (some ⟨W.heap.size, 0, none⟩)]) ∧ w' = W.alloc (.cells #[.map (some bm)] 99) :=
      (callsIn_wide (n := 6)).1 (AnyZI.keys_in Tryd.jKeys Fence.wide 6 trivial rfl (some bm) W)
    have hml := hm.lt
    have hsz : Maps.size (DataW.map (wv.map fun x => ((.int .i64 x.1 : Lit), (DataW.held x.2 : DataW Value)))) = wv.length := by simp [Maps.size]
    have hseq : SeqGives Fence.wide 4 Tryd.prog 66 #[.pointer (some ⟨W.heap.size, 0, none⟩)] encZ (fun ss => ss.Perm (intKeys (DataW.map (wv.map fun x => ((.int .i64 x.1 : Lit), (DataW.held x.2 : DataW Value)))))) (Maps.size (DataW.map (wv.map fun x => ((.int .i64 x.1 : Lit), (DataW.held x.2 : DataW Value))))) (W.alloc (.cells #[.map (some bm)] 99)) :=
      AnyZI.keys_gives (ρ := Tryd.jKeys_ren) { Tryd.jKeys with } Fence.wide _ trivial rfl (by omega) W.heap.size bm wv.length _ _ (by simp) (by simp) (by
        obtain ⟨es, clock, hb, Ft, hs, hD⟩ := hm
        exact ⟨es, clock, (Below.heap_alloc _ _ bm hml).trans hb, Ft, hs, hD⟩)
    rw [hsz] at hseq
    have cC := (callsIn_wide (n := 6)).1 (AnyZI.collect_in Tryd.jColl Fence.wide 6 trivial trivial rfl (by omega) 66 #[.pointer (some ⟨W.heap.size, 0, none⟩)] trivial (enters_of Tryd.func66 (by kernel_rfl) rfl) _ wv.length (by unfold maxLen; omega) (by omega) _ hseq)
    change Calls Tryd.prog 62 _ _ _ at cC
    have hki : intKeys (DataW.map (wv.map fun x => ((.int .i64 x.1 : Lit), (DataW.held x.2 : DataW Value)))) = p.1 :: q.map (·.1) := by
      have e1 : places J = p.1 :: q.map (·.1) := by rw [places, hjw]; rfl
      rw [← e1, ← hpl]
      simp [intKeys, intOf]
    rw [hki] at cC
    have hps2 : (p.1 :: q.map (·.1)).Pairwise (· < ·) := by
      have e1 : places J = p.1 :: q.map (·.1) := by rw [places, hjw]; rfl
      rw [← e1]; exact hps
    have cC2 := cC.mono (R' := fun e w' => ∃ (g' : Nat) (cap : Nat) (ss : List Int), e = .returned (.slice (some ⟨g', 0, none⟩) ss.length cap) ∧ 0 < ss.length ∧ ss.length ≤ 100000 ∧ (∀ j, j < ss.length → w'.cell? ⟨g', 0 + j, none⟩ = some (.int .i64 (ss.getD j 0))) ∧ Lib.minOf (ss.take ss.length) = p.1 ∧ Below W.heap.size W w') (by
      rintro e w' ⟨v, ss, rfl, hS, hrow, hnil, hb⟩
      have hsl : ss.length = q.length + 1 := by rw [hS.length_eq]; simp
      have hv : ss ≠ [] := fun e => by rw [e] at hsl; simp at hsl
      have hql : q.length + 1 ≤ 100000 := by rw [hjw] at hlen; simpa using hlen
      rcases hrow.2 with ⟨e1, _⟩ | ⟨g', cap, cur, e1, _⟩
      · exact absurd (hnil.1 e1) hv
      · subst e1
        refine ⟨g', cap, ss, rfl, by omega, by omega, fun j hj => ?_, by rw [List.take_length]; exact min_perm hS hps2, (below_alloc (Below.refl _ W) _).trans (hb.mono (by simp))⟩
        rw [Nat.zero_add, hrow.cellAt j (by omega)]
        simp [encZ, List.getD, hj])
    clear cC
    have ewl : wv.length = q.length + 1 := by rw [hlw, hjw]; rfl
    have e0 : ((wv.length : Int) == 0) = false := beq_eq_false_iff_ne.2 (by omega)
    have HJW := Aside0.mk hjw
    clear hps2 hps hpl hjw hseq hki hlen hlw ewl
    go_enter Tryd.func56, Tryd.ntmps56
    go_wp2_with (first | (at_len; refine wpList_len_own _ rfl _ 99 rfl 3 29 Tryd.underlying99 elemR bm _ _ rfl hm ?_; rw [hsz]) | (go_at_call 63; refine cK.mono ?_; rintro e w' ⟨rfl, rfl⟩) | (go_at_call 62; refine cC2.mono ?_; rintro e w' ⟨g', cap, ss, rfl, hs0, hs1, hs2, hs3, hb⟩; have hmin := AnyG.slices_Min_int Tryd.jMin g' 0 ss.length cap ss w' hs0 (Nat.le_refl _) (by omega) hs2; change Calls Tryd.prog 59 _ _ _ at hmin; rw [hs3] at hmin; have HB := Aside0.mk hb; clear hs0 hs1 hs2 hs3 hb) | (go_at_call 59; refine hmin.mono ?_; rintro e w' ⟨rfl, rfl⟩))
    go_ret2
    exact .inr ⟨p, q, rfl, rfl, HB.out⟩

end Go.Proofs.YtgopklnfdlnojaaDoor.Jd
