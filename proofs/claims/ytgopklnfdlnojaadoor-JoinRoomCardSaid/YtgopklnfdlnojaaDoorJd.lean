/- The least place for which a piece waits (ahead: 56), by the shelf's contracts of maps.Keys, slices.Collect and slices.Min. -/
import Derived.Shelf.SlIterI.Collect
import Derived.Shelf.SlicesG.Turned
import Derived.Shelf.SlGeneric
import Derived.Ground.GgzProg
import Derived.Ground.SlgnProg
import Derived.Test.YtgopklnfdlnojaaDoorJc
namespace Go.Proofs
open Go.RowKit Go.Maps Go.Sort Go.Shelf
def Tryd.jKeys_ren : Go.Shelf.Ren := ⟨fun | 7 => 63 | 10 => 66 | n => n, fun | 23 => 99 | 26 => 3 | 3 => 29 | 28 => 130 | 0 => 0 | 27 => 129 | 33 => 93 | 4 => 4 | n => n, fun | n => n⟩
theorem Tryd.jKeys : Go.Proofs.SlLaysZI.n7 Tryd.prog Tryd.jKeys_ren := {
  mixed := by kernel_rfl
  f7 := ⟨Tryd.f63.name, by decide, Tryd.func63.trans (congrArg some (by kernel_rfl))⟩
  f10 := ⟨Tryd.f66.name, by decide, Tryd.func66.trans (congrArg some (by kernel_rfl))⟩
  t0 := Tryd.underlying0
  a0 := Tryd.isAgg0
  z0 := Tryd.sizeOf0
  v0 := Tryd.zeroValue0
  t4 := Tryd.underlying4
  a4 := Tryd.isAgg4
  z4 := Tryd.sizeOf4
  v4 := Tryd.zeroValue4
  t23 := Tryd.underlying99
  a23 := Tryd.isAgg99
  z23 := Tryd.sizeOf99
  v23 := Tryd.zeroValue99
  t26 := Tryd.underlying3
  a26 := Tryd.isAgg3
  z26 := Tryd.sizeOf3
  v26 := Tryd.zeroValue3
  t27 := Tryd.underlying129
  a27 := Tryd.isAgg129
  z27 := Tryd.sizeOf129
  v27 := Tryd.zeroValue129
  t28 := Tryd.underlying130
  a28 := Tryd.isAgg130
  z28 := Tryd.sizeOf130
  v28 := Tryd.zeroValue130
  t33 := Tryd.underlying93
  a33 := Tryd.isAgg93
  z33 := Tryd.sizeOf93
  v33 := Tryd.zeroValue93 }
def Tryd.jColl_ren : Go.Shelf.Ren := ⟨fun | 8 => 62 | 11 => 65 | n => n, fun | 26 => 3 | 28 => 130 | 24 => 59 | 0 => 0 | 33 => 93 | 4 => 4 | n => n, fun | n => n⟩
theorem Tryd.jColl : Go.Proofs.SlLaysZI.n8 Tryd.prog Tryd.jColl_ren := {
  mixed := by kernel_rfl
  f8 := ⟨Tryd.f62.name, by decide, Tryd.func62.trans (congrArg some (by kernel_rfl))⟩
  f11 := ⟨Tryd.f65.name, by decide, Tryd.func65.trans (congrArg some (by kernel_rfl))⟩
  t0 := Tryd.underlying0
  a0 := Tryd.isAgg0
  z0 := Tryd.sizeOf0
  v0 := Tryd.zeroValue0
  t24 := Tryd.underlying59
  a24 := Tryd.isAgg59
  z24 := Tryd.sizeOf59
  v24 := Tryd.zeroValue59
  t26 := Tryd.underlying3
  a26 := Tryd.isAgg3
  z26 := Tryd.sizeOf3
  v26 := Tryd.zeroValue3
  t28 := Tryd.underlying130
  a28 := Tryd.isAgg130
  z28 := Tryd.sizeOf130
  v28 := Tryd.zeroValue130
  i26 := by kernel_rfl }
def Tryd.jMin_ren : Go.Shelf.Ren := ⟨fun | 39 => 59 | n => n, fun | 22 => 59 | 23 => 3 | 3 => 3 | 4 => 4 | 9 => 9 | 20 => 20 | 0 => 0 | n => n, fun | n => n⟩
theorem Tryd.jMin : Go.Proofs.SlLaysN.n39 Tryd.prog Tryd.jMin_ren := {
  mixed := by kernel_rfl
  f39 := ⟨Tryd.f59.name, by decide, Tryd.func59.trans (congrArg some (by kernel_rfl))⟩
  t0 := Tryd.underlying0
  a0 := Tryd.isAgg0
  z0 := Tryd.sizeOf0
  v0 := Tryd.zeroValue0
  t3 := Tryd.underlying3
  a3 := Tryd.isAgg3
  z3 := Tryd.sizeOf3
  v3 := Tryd.zeroValue3
  t4 := Tryd.underlying4
  a4 := Tryd.isAgg4
  z4 := Tryd.sizeOf4
  v4 := Tryd.zeroValue4
  t9 := Tryd.underlying9
  a9 := Tryd.isAgg9
  z9 := Tryd.sizeOf9
  v9 := Tryd.zeroValue9
  t20 := Tryd.underlying20
  a20 := Tryd.isAgg20
  z20 := Tryd.sizeOf20
  v20 := Tryd.zeroValue20
  t22 := Tryd.underlying59
  a22 := Tryd.isAgg59
  z22 := Tryd.sizeOf59
  v22 := Tryd.zeroValue59
  t23 := Tryd.underlying3
  a23 := Tryd.isAgg3
  z23 := Tryd.sizeOf3
  v23 := Tryd.zeroValue3 }
end Go.Proofs
namespace Go.Proofs.YtgopklnfdlnojaaDoor.Jd
open Go.RowKit Go.Maps Go.Sort Go.Shelf Go.Proofs.YtgopklnfdlnojaaDoor.Ga Go.Proofs.YtgopklnfdlnojaaDoor.My Go.Proofs.YtgopklnfdlnojaaDoor.Gb Go.Proofs.YtgopklnfdlnojaaDoor.Gp Go.Proofs.YtgopklnfdlnojaaDoor.Ja Go.Proofs.YtgopklnfdlnojaaDoor.Jb Go.Proofs.YtgopklnfdlnojaaDoor.Jc Go.Proofs.YtgopklnfdlnojaaDoorW.PrintWords Go.Proofs.YtgopklnfdlnojaaDoorW.PrintLast Go.Proofs.YtgopklnfdlnojaaDoorW.PrintMore
set_option linter.unusedVariables false
set_option linter.unusedSimpArgs false

theorem foldl_min_le (zs : List Int) : ∀ a : Int, zs.foldl min a ≤ a ∧ (∀ z ∈ zs, zs.foldl min a ≤ z) ∧ (zs.foldl min a = a ∨ zs.foldl min a ∈ zs) := by
  induction zs with
  | nil => intro a; simp
  | cons z zs ih =>
    intro a
    obtain ⟨h1, h2, h3⟩ := ih (min a z)
    simp only [List.foldl_cons, List.mem_cons]
    refine ⟨by omega, ?_, ?_⟩
    · rintro y (rfl | hy)
      · omega
      · exact h2 y hy
    · rcases h3 with h | h
      · rcases Int.le_total a z with e | e
        · left; rw [h]; omega
        · right; left; rw [h]; omega
      · exact .inr (.inr h)
/-- The least of numbers that stand in some order is the first of them where they rise. -/
theorem min_perm {ss : List Int} {h : Int} {t : List Int} (hp : ss.Perm (h :: t)) (hs : (h :: t).Pairwise (· < ·)) : Lib.minOf ss = h := by
  have hm : h ∈ ss := hp.symm.subset (by simp)
  obtain ⟨z, zs, rfl⟩ : ∃ z zs, ss = z :: zs := by
    cases ss with
    | nil => simp at hm
    | cons z zs => exact ⟨z, zs, rfl⟩
  unfold Lib.minOf
  obtain ⟨h1, h2, h3⟩ := foldl_min_le (z :: zs) z
  simp only [List.headD_cons]
  have hle := h2 h hm
  have hin : (z :: zs).foldl min z ∈ h :: t := hp.subset (h3.elim (fun e => by rw [e]; exact List.mem_cons_self) id)
  rcases List.mem_cons.1 hin with e | e
  · exact e
  · have := (List.pairwise_cons.1 hs).1 _ e
    omega

/-- The places that wait, rising. -/
def places (J : Jn) : List Int := J.wait.map (·.1)
theorem places_sorted {W : World} {base g bm : Nat} {vl vd ve : Value} {wv : List (Int × Value)} {er : List (List Value)} {J : Jn} (h : JM W base g bm vl vd ve wv er J) : (places J).Pairwise (· < ·) := List.Pairwise.map _ (fun _ _ h => h) h.hsort
theorem places_wv {W : World} {base g bm : Nat} {vl vd ve : Value} {wv : List (Int × Value)} {er : List (List Value)} {J : Jn} (h : JM W base g bm vl vd ve wv er J) : wv.map (·.1) = places J := by
  obtain ⟨h1, h2⟩ := h.hwv
  refine List.ext_getElem? fun j => ?_
  simp only [places, List.getElem?_map]
  cases hj : J.wait[j]? with
  | none =>
    have := List.getElem?_eq_none_iff.1 hj
    rw [List.getElem?_eq_none_iff.2 (by omega)]
    rfl
  | some p =>
    have hl := (List.getElem?_eq_some_iff.1 hj).1
    have e2 : wv[j]? = some (wv[j]'(by omega)) := List.getElem?_eq_getElem _
    rw [e2]
    simp [(h2 j p _ hj e2).1]

set_option maxHeartbeats 1000000 in
set_option maxRecDepth 100000 in
theorem ahead_any (W : World) (base g bm : Nat) (vl vd ve : Value) (wv : List (Int × Value)) (er : List (List Value)) (J : Jn) (h : JM W base g bm vl vd ve wv er J) (hlen : J.wait.length ≤ 100000) :
    Calls Tryd.prog 56 #[.pointer (some ⟨g, 0, none⟩)] W fun e W' => (J.wait = [] ∧ e = .returned (.tuple #[.int .i64 0, .bool false]) ∧ W' = W) ∨
      (∃ p q, J.wait = p :: q ∧ e = .returned (.tuple #[.int .i64 p.1, .bool true]) ∧ Below W.heap.size W W') := by
  have HJ := Aside0.mk h
  have hg := h.hg
  have c4 := blk_cell hg 4
  simp at c4
  have hlw : wv.length = J.wait.length := h.hwv.1
  have hm := h.hmap
  have hpl := places_wv h
  have hps := places_sorted h
  clear h hg
  cases hjw : J.wait with
  | nil =>
    have hz : wv = [] := List.length_eq_zero_iff.1 (by rw [hlw, hjw]; rfl)
    subst hz
    have HP := Aside0.mk (And.intro hlw (And.intro hpl hps))
    clear hpl hps hlw hjw
    go_enter Tryd.func56, Tryd.ntmps56
    go_wp2_with (at_len; refine wpList_len_own _ rfl _ 99 rfl 3 29 Tryd.underlying99 elemR bm _ _ rfl hm ?_)
    go_ret2
    exact .inl ⟨trivial, rfl, rfl⟩
  | cons p q =>
    have cK : Calls Tryd.prog 63 #[.map (some bm)] W fun e w' => e = .returned (.func (.func 66) #[] #[.pointer (some ⟨W.heap.size, 0, none⟩)]) ∧ w' = W.alloc (.cells #[.map (some bm)] 99) :=
      (callsIn_wide (n := 6)).1 (AnyZI.keys_in Tryd.jKeys Fence.wide 6 trivial rfl (some bm) W)
    have hml := hm.lt
    have hsz : Maps.size (DataW.map (wv.map fun x => ((.int .i64 x.1 : Lit), (DataW.held x.2 : DataW Value)))) = wv.length := by simp [Maps.size]
    have hseq : SeqGives Fence.wide 4 Tryd.prog 66 #[.pointer (some ⟨W.heap.size, 0, none⟩)] encZ (fun ss => ss.Perm (intKeys (DataW.map (wv.map fun x => ((.int .i64 x.1 : Lit), (DataW.held x.2 : DataW Value)))))) (Maps.size (DataW.map (wv.map fun x => ((.int .i64 x.1 : Lit), (DataW.held x.2 : DataW Value))))) (W.alloc (.cells #[.map (some bm)] 99)) :=
      AnyZI.keys_gives (ρ := Tryd.jKeys_ren) { Tryd.jKeys with } Fence.wide _ trivial rfl (by omega) W.heap.size bm wv.length _ _ (by simp) (by simp) (by
        obtain ⟨es, clock, hb, Ft, hs, hD⟩ := hm
        exact ⟨es, clock, (Below.heap_alloc _ _ bm hml).trans hb, Ft, hs, hD⟩)
    rw [hsz] at hseq
    have cC := (callsIn_wide (n := 6)).1 (AnyZI.collect_in Tryd.jColl Fence.wide 6 trivial trivial rfl (by omega) 66 #[.pointer (some ⟨W.heap.size, 0, none⟩)] trivial (enters_of Tryd.func66 (by kernel_rfl) rfl) _ wv.length (by unfold maxLen; omega) (by omega) _ hseq)
    change Calls Tryd.prog 62 _ _ _ at cC
    have hki : intKeys (DataW.map (wv.map fun x => ((.int .i64 x.1 : Lit), (DataW.held x.2 : DataW Value)))) = p.1 :: q.map (·.1) := by
      have e1 : places J = p.1 :: q.map (·.1) := by rw [places, hjw]; rfl
      rw [← e1, ← hpl]
      simp [intKeys, intOf]
    rw [hki] at cC
    have hps2 : (p.1 :: q.map (·.1)).Pairwise (· < ·) := by
      have e1 : places J = p.1 :: q.map (·.1) := by rw [places, hjw]; rfl
      rw [← e1]; exact hps
    have cC2 := cC.mono (R' := fun e w' => ∃ (g' : Nat) (cap : Nat) (ss : List Int), e = .returned (.slice (some ⟨g', 0, none⟩) ss.length cap) ∧ 0 < ss.length ∧ ss.length ≤ 100000 ∧ (∀ j, j < ss.length → w'.cell? ⟨g', 0 + j, none⟩ = some (.int .i64 (ss.getD j 0))) ∧ Lib.minOf (ss.take ss.length) = p.1 ∧ Below W.heap.size W w') (by
      rintro e w' ⟨v, ss, rfl, hS, hrow, hnil, hb⟩
      have hsl : ss.length = q.length + 1 := by rw [hS.length_eq]; simp
      have hv : ss ≠ [] := fun e => by rw [e] at hsl; simp at hsl
      have hql : q.length + 1 ≤ 100000 := by rw [hjw] at hlen; simpa using hlen
      rcases hrow.2 with ⟨e1, _⟩ | ⟨g', cap, cur, e1, _⟩
      · exact absurd (hnil.1 e1) hv
      · subst e1
        refine ⟨g', cap, ss, rfl, by omega, by omega, fun j hj => ?_, by rw [List.take_length]; exact min_perm hS hps2, (below_alloc (Below.refl _ W) _).trans (hb.mono (by simp))⟩
        rw [Nat.zero_add, hrow.cellAt j (by omega)]
        simp [encZ, List.getD, hj])
    clear cC
    have ewl : wv.length = q.length + 1 := by rw [hlw, hjw]; rfl
    have e0 : ((wv.length : Int) == 0) = false := beq_eq_false_iff_ne.2 (by omega)
    have HJW := Aside0.mk hjw
    clear hps2 hps hpl hjw hseq hki hlen hlw ewl
    go_enter Tryd.func56, Tryd.ntmps56
    go_wp2_with (first | (at_len; refine wpList_len_own _ rfl _ 99 rfl 3 29 Tryd.underlying99 elemR bm _ _ rfl hm ?_; rw [hsz]) | (go_at_call 63; refine cK.mono ?_; rintro e w' ⟨rfl, rfl⟩) | (go_at_call 62; refine cC2.mono ?_; rintro e w' ⟨g', cap, ss, rfl, hs0, hs1, hs2, hs3, hb⟩; have hmin := AnyG.slices_Min_int Tryd.jMin g' 0 ss.length cap ss w' hs0 (Nat.le_refl _) (by omega) hs2; change Calls Tryd.prog 59 _ _ _ at hmin; rw [hs3] at hmin; have HB := Aside0.mk hb; clear hs0 hs1 hs2 hs3 hb) | (go_at_call 59; refine hmin.mono ?_; rintro e w' ⟨rfl, rfl⟩))
    go_ret2
    exact .inr ⟨p, q, rfl, rfl, HB.out⟩

end Go.Proofs.YtgopklnfdlnojaaDoor.Jd
