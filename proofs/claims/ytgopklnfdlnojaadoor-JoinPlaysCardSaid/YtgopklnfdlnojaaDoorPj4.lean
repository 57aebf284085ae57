/- A joiner of the program runs, skips, is flushed and is fed. -/
import Derived.Shelf.SlIterI.Collect
import Derived.Shelf.SlicesG.Turned
import Derived.Shelf.SlGeneric
import Derived.Ground.GgzProg
import Derived.Ground.SlgnProg
import Derived.Test.YtgopklnfdlnojaaDoorPj3
import Derived.Deep.LoopGhost
namespace Go.Proofs
open Go.RowKit Go.Maps Go.Sort Go.Shelf
def Tryd.jKeys_ren : Go.Shelf.Ren := ⟨fun | 7 => 63 | 10 => 66 | n => n, fun | 23 => 99 | 26 => 3 | 3 => 29 | 28 => 130 | 0 => 0 | 27 => 129 | 33 => 93 | 4 => 4 | n => n, fun | n => n⟩
theorem Tryd.jKeys : Go.Proofs.SlLaysZI.n7 Tryd.prog Tryd.jKeys_ren := {
  mixed := by kernel_rfl
  f7 := ⟨Tryd.f63.name, by decide, Tryd.func63.trans (congrArg some (by kernel_rfl))⟩
  f10 := ⟨Tryd.f66.name, by decide, Tryd.func66.trans (congrArg some (by kernel_rfl))⟩
  t0 := Tryd.underlying0
  a0 := Tryd.isAgg0
  z0 := Tryd.sizeOf0
  v0 := Tryd.zeroValue0
  t4 := Tryd.underlying4
  a4 := Tryd.isAgg4
  z4 := Tryd.sizeOf4
  v4 := Tryd.zeroValue4
  t23 := Tryd.underlying99
  a23 := Tryd.isAgg99
  z23 := Tryd.sizeOf99
  v23 := Tryd.zeroValue99
  t26 := Tryd.underlying3
  a26 := Tryd.isAgg3
  z26 := Tryd.sizeOf3
  v26 := Tryd.zeroValue3
  t27 := Tryd.underlying129
  a27 := Tryd.isAgg129
  z27 := Tryd.sizeOf129
  v27 := Tryd.zeroValue129
  t28 := Tryd.underlying130
  a28 := Tryd.isAgg130
  z28 := Tryd.sizeOf130
  v28 := Tryd.zeroValue130
  t33 := Tryd.underlying93
  a33 := Tryd.isAgg93
  z33 := Tryd.sizeOf93
  v33 := Tryd.zeroValue93 }
def Tryd.jColl_ren : Go.Shelf.Ren := ⟨fun | 8 => 62 | 11 => 65 | n => n, fun | 26 => 3 | 28 => 130 | 24 => 59 | 0 => 0 | 33 => 93 | 4 => 4 | n => n, fun | n => n⟩
theorem Tryd.jColl : Go.Proofs.SlLaysZI.n8 Tryd.prog Tryd.jColl_ren := {
  mixed := by kernel_rfl
  f8 := ⟨Tryd.f62.name, by decide, Tryd.func62.trans (congrArg some (by kernel_rfl))⟩
  f11 := ⟨Tryd.f65.name, by decide, Tryd.func65.trans (congrArg some (by kernel_rfl))⟩
  t0 := Tryd.underlying0
  a0 := Tryd.isAgg0
  z0 := Tryd.sizeOf0
  v0 := Tryd.zeroValue0
  t24 := Tryd.underlying59
  a24 := Tryd.isAgg59
  z24 := Tryd.sizeOf59
  v24 := Tryd.zeroValue59
  t26 := Tryd.underlying3
  a26 := Tryd.isAgg3
  z26 := Tryd.sizeOf3
  v26 := Tryd.zeroValue3
  t28 := Tryd.underlying130
  a28 := Tryd.isAgg130
  z28 := Tryd.sizeOf130
  v28 := Tryd.zeroValue130
  i26 := by kernel_rfl }
def Tryd.jMin_ren : Go.Shelf.Ren := ⟨fun | 39 => 59 | n => n, fun | 22 => 59 | 23 => 3 | 3 => 3 | 4 => 4 | 9 => 9 | 20 => 20 | 0 => 0 | n => n, fun | n => n⟩
theorem Tryd.jMin : Go.Proofs.SlLaysN.n39 Tryd.prog Tryd.jMin_ren := {
  mixed := by kernel_rfl
  f39 := ⟨Tryd.f59.name, by decide, Tryd.func59.trans (congrArg some (by kernel_rfl))⟩
  t0 := Tryd.underlying0
  a0 := Tryd.isAgg0
  z0 := Tryd.sizeOf0
  v0 := Tryd.zeroValue0
  t3 := Tryd.underlying3
  a3 := Tryd.isAgg3
  z3 := Tryd.sizeOf3
  v3 := Tryd.zeroValue3
  t4 := Tryd.underlying4
  a4 := Tryd.isAgg4
  z4 := Tryd.sizeOf4
  v4 := Tryd.zeroValue4
  t9 := Tryd.underlying9
  a9 := Tryd.isAgg9
  z9 := Tryd.sizeOf9
  v9 := Tryd.zeroValue9
  t20 := Tryd.underlying20
  a20 := Tryd.isAgg20
  z20 := Tryd.sizeOf20
  v20 := Tryd.zeroValue20
  t22 := Tryd.underlying59
  a22 := Tryd.isAgg59
  z22 := Tryd.sizeOf59
  v22 := Tryd.zeroValue59
  t23 := Tryd.underlying3
  a23 := Tryd.isAgg3
  z23 := Tryd.sizeOf3
  v23 := Tryd.zeroValue3 }
end Go.Proofs
namespace Go.Proofs.YtgopklnfdlnojaaDoor.Jd
open Go.RowKit Go.Maps Go.Sort Go.Shelf Go.Proofs.YtgopklnfdlnojaaDoor.Ga Go.Proofs.YtgopklnfdlnojaaDoor.My Go.Proofs.YtgopklnfdlnojaaDoor.Gb Go.Proofs.YtgopklnfdlnojaaDoor.Gp Go.Proofs.YtgopklnfdlnojaaDoor.Ja Go.Proofs.YtgopklnfdlnojaaDoor.Jb Go.Proofs.YtgopklnfdlnojaaDoor.Jc Go.Proofs.YtgopklnfdlnojaaDoorW.PrintWords Go.Proofs.YtgopklnfdlnojaaDoorW.PrintLast Go.Proofs.YtgopklnfdlnojaaDoorW.PrintMore
set_option linter.unusedVariables false
set_option linter.unusedSimpArgs false

theorem foldl_min_le (zs : List Int) : ∀ a : Int, zs.foldl min a ≤ a ∧ (∀ z ∈ zs, zs.foldl min a ≤ z) ∧ (zs.foldl min a = a ∨ zs.foldl min a ∈ zs) := by
  induction zs with
  | nil => intro a; simp
  | cons z zs ih =>
    intro a
    obtain ⟨h1, h2, h3⟩ := ih (min a z)
    simp only [List.foldl_cons, List.mem_cons]
    refine ⟨by omega, ?_, ?_⟩
    · rintro y (rfl | hy)
      · omega
      · exact h2 y hy
    · rcases h3 with h | h
      · rcases Int.le_total a z with e | e
        · left; rw [h]; omega
        · right; left; rw [h]; omega
      · exact .inr (.inr h)
/-- The least of numbers that stand in some order is the first of them where they rise. -/
theorem min_perm {ss : List Int} {h : Int} {t : List Int} (hp : ss.Perm (h :: t)) (hs : (h :: t).Pairwise (· < ·)) : Lib.minOf ss = h := by
  have hm : h ∈ ss := hp.symm.subset (by simp)
  obtain ⟨z, zs, rfl⟩ : ∃ z zs, ss = z :: zs := by
    cases ss with
    | nil => simp at hm
    | cons z zs => exact ⟨z, zs, rfl⟩
  unfold Lib.minOf
  obtain ⟨h1, h2, h3⟩ := foldl_min_le (z :: zs) z
  simp only [List.headD_cons]
  have hle := h2 h hm
  have hin : (z :: zs).foldl min z ∈ h :: t := hp.subset (h3.elim (fun e => by rw [e]; exact List.mem_cons_self) id)
  rcases List.mem_cons.1 hin with e | e
  · exact e
  · have := (List.pairwise_cons.1 hs).1 _ e
    omega

/-- The places that wait, rising. -/
def places (J : Jn) : List Int := J.wait.map (·.1)
theorem places_sorted {W : World} {base g bm : Nat} {vl vd ve : Value} {wv : List (Int × Value)} {er : List (List Value)} {J : Jn} (h : JM W base g bm vl vd ve wv er J) : (places J).Pairwise (· < ·) := List.Pairwise.map _ (fun _ _ h => h) h.hsort
theorem places_wv {W : World} {base g bm : Nat} {vl vd ve : Value} {wv : List (Int × Value)} {er : List (List Value)} {J : Jn} (h : JM W base g bm vl vd ve wv er J) : wv.map (·.1) = places J := by
  obtain ⟨h1, h2⟩ := h.hwv
  refine List.ext_getElem? fun j => ?_
  simp only [places, List.getElem?_map]
  cases hj : J.wait[j]? with
  | none =>
    have := List.getElem?_eq_none_iff.1 hj
    rw [List.getElem?_eq_none_iff.2 (by omega)]
    rfl
  | some p =>
    have hl := (List.getElem?_eq_some_iff.1 hj).1
    have e2 : wv[j]? = some (wv[j]'(by omega)) := List.getElem?_eq_getElem _
    rw [e2]
    simp [(h2 j p _ hj e2).1]

set_option maxHeartbeats 1000000 in
set_option maxRecDepth 100000 in
theorem ahead_any (W : World) (base g bm : Nat) (vl vd ve : Value) (wv : List (Int × Value)) (er : List (List Value)) (J : Jn) (h : JM W base g bm vl vd ve wv er J) (hlen : J.wait.length ≤ 100000) :
    Calls Tryd.prog 56 #[.pointer (some ⟨g, 0, none⟩)] W fun e W' => (J.wait = [] ∧ e = .returned (.tuple #[.int .i64 0, .bool false]) ∧ W' = W) ∨
      (∃ p q, J.wait = p :: q ∧ e = .returned (.tuple #[.int .i64 p.1, .bool true]) ∧ Below W.heap.size W W') := by
  have HJ := Aside0.mk h
  have hg := h.hg
  have c4 := blk_cell hg 4
  simp at c4
  have hlw : wv.length = J.wait.length := h.hwv.1
  have hm := h.hmap
  have hpl := places_wv h
  have hps := places_sorted h
  clear h hg
  cases hjw : J.wait with
  | nil =>
    have hz : wv = [] := List.length_eq_zero_iff.1 (by rw [hlw, hjw]; rfl)
    subst hz
    have HP := Aside0.mk (And.intro hlw (And.intro hpl hps))
    clear hpl hps hlw hjw
    go_enter Tryd.func56, Tryd.ntmps56
    go_wp2_with (at_len; refine wpList_len_own _ rfl _ 99 rfl 3 29 Tryd.underlying99 elemR bm _ _ rfl hm ?_)
    go_ret2
    exact .inl ⟨trivial, rfl, rfl⟩
  | cons p q =>
    have cK : Calls Tryd.prog 63 #[.map (some bm)] W fun e w' => e = .returned (.func (.func 66) #[] #[.pointer (some ⟨W.heap.size, 0, none⟩)]) ∧ w' = W.alloc (.cells #[.map (some bm)] 99) :=
      (callsIn_wide (n := 6)).1 (AnyZI.keys_in Tryd.jKeys Fence.wide 6 trivial rfl (some bm) W)
    have hml := hm.lt
    have hsz : Maps.size (DataW.map (wv.map fun x => ((.int .i64 x.1 : Lit), (DataW.held x.2 : DataW Value)))) = wv.length := by simp [Maps.size]
    have hseq : SeqGives Fence.wide 4 Tryd.prog 66 #[.pointer (some ⟨W.heap.size, 0, none⟩)] encZ (fun ss => ss.Perm (intKeys (DataW.map (wv.map fun x => ((.int .i64 x.1 : Lit), (DataW.held x.2 : DataW Value)))))) (Maps.size (DataW.map (wv.map fun x => ((.int .i64 x.1 : Lit), (DataW.held x.2 : DataW Value))))) (W.alloc (.cells #[.map (some bm)] 99)) :=
      AnyZI.keys_gives (ρ := Tryd.jKeys_ren) { Tryd.jKeys with } Fence.wide _ trivial rfl (by omega) W.heap.size bm wv.length _ _ (by simp) (by simp) (by
        obtain ⟨es, clock, hb, Ft, hs, hD⟩ := hm
        exact ⟨es, clock, (Below.heap_alloc _ _ bm hml).trans hb, Ft, hs, hD⟩)
    rw [hsz] at hseq
    have cC := (callsIn_wide (n := 6)).1 (AnyZI.collect_in Tryd.jColl Fence.wide 6 trivial trivial rfl (by omega) 66 #[.pointer (some ⟨W.heap.size, 0, none⟩)] trivial (enters_of Tryd.func66 (by kernel_rfl) rfl) _ wv.length (by unfold maxLen; omega) (by omega) _ hseq)
    change Calls Tryd.prog 62 _ _ _ at cC
    have hki : intKeys (DataW.map (wv.map fun x => ((.int .i64 x.1 : Lit), (DataW.held x.2 : DataW Value)))) = p.1 :: q.map (·.1) := by
      have e1 : places J = p.1 :: q.map (·.1) := by rw [places, hjw]; rfl
      rw [← e1, ← hpl]
      simp [intKeys, intOf]
    rw [hki] at cC
    have hps2 : (p.1 :: q.map (·.1)).Pairwise (· < ·) := by
      have e1 : places J = p.1 :: q.map (·.1) := by rw [places, hjw]; rfl
      rw [← e1]; exact hps
    have cC2 := cC.mono (R' := fun e w' => ∃ (g' : Nat) (cap : Nat) (ss : List Int), e = .returned (.slice (some ⟨g', 0, none⟩) ss.length cap) ∧ 0 < ss.length ∧ ss.length ≤ 100000 ∧ (∀ j, j < ss.length → w'.cell? ⟨g', 0 + j, none⟩ = some (.int .i64 (ss.getD j 0))) ∧ Lib.minOf (ss.take ss.length) = p.1 ∧ Below W.heap.size W w') (by
      rintro e w' ⟨v, ss, rfl, hS, hrow, hnil, hb⟩
      have hsl : ss.length = q.length + 1 := by rw [hS.length_eq]; simp
      have hv : ss ≠ [] := fun e => by rw [e] at hsl; simp at hsl
      have hql : q.length + 1 ≤ 100000 := by rw [hjw] at hlen; simpa using hlen
      rcases hrow.2 with ⟨e1, _⟩ | ⟨g', cap, cur, e1, _⟩
      · exact absurd (hnil.1 e1) hv
      · subst e1
        refine ⟨g', cap, ss, rfl, by omega, by omega, fun j hj => ?_, by rw [List.take_length]; exact min_perm hS hps2, (below_alloc (Below.refl _ W) _).trans (hb.mono (by simp))⟩
        rw [Nat.zero_add, hrow.cellAt j (by omega)]
        simp [encZ, List.getD, hj])
    clear cC
    have ewl : wv.length = q.length + 1 := by rw [hlw, hjw]; rfl
    have e0 : ((wv.length : Int) == 0) = false := beq_eq_false_iff_ne.2 (by omega)
    have HJW := Aside0.mk hjw
    clear hps2 hps hpl hjw hseq hki hlen hlw ewl
    go_enter Tryd.func56, Tryd.ntmps56
    go_wp2_with (first | (at_len; refine wpList_len_own _ rfl _ 99 rfl 3 29 Tryd.underlying99 elemR bm _ _ rfl hm ?_; rw [hsz]) | (go_at_call 63; refine cK.mono ?_; rintro e w' ⟨rfl, rfl⟩) | (go_at_call 62; refine cC2.mono ?_; rintro e w' ⟨g', cap, ss, rfl, hs0, hs1, hs2, hs3, hb⟩; have hmin := AnyG.slices_Min_int Tryd.jMin g' 0 ss.length cap ss w' hs0 (Nat.le_refl _) (by omega) hs2; change Calls Tryd.prog 59 _ _ _ at hmin; rw [hs3] at hmin; have HB := Aside0.mk hb; clear hs0 hs1 hs2 hs3 hb) | (go_at_call 59; refine hmin.mono ?_; rintro e w' ⟨rfl, rfl⟩))
    go_ret2
    exact .inr ⟨p, q, rfl, rfl, HB.out⟩

end Go.Proofs.YtgopklnfdlnojaaDoor.Jd
namespace Go.Proofs.YtgopklnfdlnojaaDoor.Je
open Go.RowKit Go.Proofs.YtgopklnfdlnojaaDoor.Ga Go.Proofs.YtgopklnfdlnojaaDoor.Ja Go.Proofs.YtgopklnfdlnojaaDoor.Jb Go.Proofs.YtgopklnfdlnojaaDoor.Jc Go.Proofs.YtgopklnfdlnojaaDoor.Jd
set_option linter.unusedVariables false
set_option linter.unusedSimpArgs false

def low (J : Jn) : Int := Lib.minOf J.last
def lostJ (J : Jn) (fin : Int) : Jn := { tellJ J 1 J.next (fin - J.next) with next := fin, mode := 2, data := [] }
def popJ (J : Jn) (p : S29) (q : List (Int × S29)) : Jn := { pieceJ { J with wait := q } J.next p with next := J.next + 1 }
/-- Where the places that lack end. -/
def finJ (J : Jn) : Int := match J.wait with | [] => low J + 1 | p :: _ => min (low J + 1) p.1
def stepJ (J : Jn) : Option Jn :=
  match J.wait with
  | [] => if low J + 1 ≤ J.next then none else some (lostJ J (low J + 1))
  | p :: q => if p.1 = J.next then some (popJ J p.2 q) else if min (low J + 1) p.1 ≤ J.next then none else some (lostJ J (min (low J + 1) p.1))
def runN : Nat → Jn → Jn
  | 0, J => J
  | n + 1, J => match stepJ J with | none => J | some J' => runN n J'
/-- How many steps there are at most. -/
def phi (J : Jn) : Nat := 3 * J.wait.length + (match J.wait with | [] => 0 | p :: _ => if p.1 = J.next then 0 else 1) + (if low J + 1 ≤ J.next then 0 else 1)
def runJ (J : Jn) : Jn := runN (phi J) J

structure OkJ (J : Jn) (K : Int) : Prop where
  nm0 : 0 < J.nm
  last0 : J.last ≠ []
  lastK : ∀ x ∈ J.last, -1 ≤ x ∧ x ≤ K
  next0 : 0 ≤ J.next
  nextK : J.next ≤ K + 1
  waitK : ∀ p ∈ J.wait, J.next ≤ p.1 ∧ p.1 ≤ K ∧ p.2.f3.length ≤ 1000
  sort : J.wait.Pairwise (fun p q => p.1 < q.1)
  data : (J.data.length : Int) ≤ J.most
  most : 0 ≤ J.most ∧ J.most ≤ 1048576

theorem low_mem {J : Jn} (h : J.last ≠ []) : low J ∈ J.last := by
  unfold low Lib.minOf
  cases hl : J.last with
  | nil => exact absurd hl h
  | cons z zs =>
    simp only [List.headD_cons]
    rcases (foldl_min_le (z :: zs) z).2.2 with e | e
    · rw [e]; simp
    · exact e
theorem low_le {J : Jn} : ∀ x ∈ J.last, low J ≤ x := by
  intro x hx
  unfold low Lib.minOf
  exact (foldl_min_le _ _).2.1 x hx
theorem OkJ.low {J : Jn} {K : Int} (h : OkJ J K) : -1 ≤ Je.low J ∧ Je.low J ≤ K := h.lastK _ (low_mem h.last0)

/-! A piece turns mode, data and events alone. -/
section
variable (J : Jn) (place : Int) (b e : Bool) (p : S29)
theorem badJ_nm : (badJ J place b).nm = J.nm := by unfold badJ tellJ; split <;> rfl
theorem badJ_room : (badJ J place b).room = J.room := by unfold badJ tellJ; split <;> rfl
theorem badJ_most : (badJ J place b).most = J.most := by unfold badJ tellJ; split <;> rfl
theorem badJ_last : (badJ J place b).last = J.last := by unfold badJ tellJ; split <;> rfl
theorem badJ_wait : (badJ J place b).wait = J.wait := by unfold badJ tellJ; split <;> rfl
theorem badJ_next : (badJ J place b).next = J.next := by unfold badJ tellJ; split <;> rfl
theorem badJ_data : (badJ J place b).data = J.data := by unfold badJ tellJ; split <;> rfl
theorem badJ_evs : (badJ J place b).evs.length ≤ J.evs.length + 1 := by unfold badJ tellJ; split <;> simp
theorem doneJ_nm : (doneJ J e).nm = J.nm := by unfold doneJ; (repeat' split) <;> rfl
theorem doneJ_room : (doneJ J e).room = J.room := by unfold doneJ; (repeat' split) <;> rfl
theorem doneJ_most : (doneJ J e).most = J.most := by unfold doneJ; (repeat' split) <;> rfl
theorem doneJ_last : (doneJ J e).last = J.last := by unfold doneJ; (repeat' split) <;> rfl
theorem doneJ_wait : (doneJ J e).wait = J.wait := by unfold doneJ; (repeat' split) <;> rfl
theorem doneJ_next : (doneJ J e).next = J.next := by unfold doneJ; (repeat' split) <;> rfl
theorem doneJ_evs : (doneJ J e).evs.length ≤ J.evs.length + 1 := by unfold doneJ; (repeat' split) <;> simp
theorem doneJ_data (h0 : 0 ≤ J.most) : ((doneJ J e).data.length : Int) ≤ J.most := by
  unfold doneJ
  split
  · simpa using h0
  · split
    · simpa using h0
    · omega
theorem pieceJ_nm : (pieceJ J place p).nm = J.nm := by unfold pieceJ; (repeat' split) <;> simp [doneJ_nm, badJ_nm]
theorem pieceJ_room : (pieceJ J place p).room = J.room := by unfold pieceJ; (repeat' split) <;> simp [doneJ_room, badJ_room]
theorem pieceJ_most : (pieceJ J place p).most = J.most := by unfold pieceJ; (repeat' split) <;> simp [doneJ_most, badJ_most]
theorem pieceJ_last : (pieceJ J place p).last = J.last := by unfold pieceJ; (repeat' split) <;> simp [doneJ_last, badJ_last]
theorem pieceJ_wait : (pieceJ J place p).wait = J.wait := by unfold pieceJ; (repeat' split) <;> simp [doneJ_wait, badJ_wait]
theorem pieceJ_next : (pieceJ J place p).next = J.next := by unfold pieceJ; (repeat' split) <;> simp [doneJ_next, badJ_next]
theorem pieceJ_evs : (pieceJ J place p).evs.length ≤ J.evs.length + 2 := by
  have h := badJ_evs J place p.f0
  unfold pieceJ
  split
  · refine Nat.le_trans (doneJ_evs _ _) ?_
    simp; omega
  · split
    · refine Nat.le_trans (doneJ_evs _ _) ?_
      simp; omega
    · simp; omega
theorem pieceJ_data (h0 : 0 ≤ J.most) (hd : (J.data.length : Int) ≤ J.most) : ((pieceJ J place p).data.length : Int) ≤ J.most := by
  unfold pieceJ
  split
  · have := doneJ_data { badJ J place p.f0 with mode := 1, data := p.f3 } p.f1 (by simpa [badJ_most] using h0)
    simpa [badJ_most] using this
  · split
    · have := doneJ_data { badJ J place p.f0 with data := (badJ J place p.f0).data ++ p.f3 } p.f1 (by simpa [badJ_most] using h0)
      simpa [badJ_most] using this
    · simpa [badJ_data] using hd
end

theorem lost_ok {J : Jn} {K fin : Int} (h : OkJ J K) (h1 : J.next ≤ fin) (h2 : fin ≤ K + 1) (h3 : ∀ p ∈ J.wait, fin ≤ p.1) : OkJ (lostJ J fin) K :=
  ⟨h.nm0, h.last0, h.lastK, Int.le_trans h.next0 h1, h2, fun p hp => ⟨h3 p hp, (h.waitK p hp).2⟩, h.sort, by simpa [lostJ, tellJ] using h.most.1, h.most⟩
theorem pop_ok {J : Jn} {K : Int} {p : Int × S29} {q : List (Int × S29)} (h : OkJ J K) (hw : J.wait = p :: q) (hp : p.1 = J.next) : OkJ (popJ J p.2 q) K := by
  have hs := h.sort
  rw [hw] at hs
  obtain ⟨hs1, hs2⟩ := List.pairwise_cons.1 hs
  have hpk := h.waitK p (by rw [hw]; simp)
  have hn := h.next0
  refine ⟨by simpa [popJ, pieceJ_nm] using h.nm0, by simpa [popJ, pieceJ_last] using h.last0, by simpa [popJ, pieceJ_last] using h.lastK, by simp [popJ]; omega, by simp [popJ]; omega, ?_, by simpa [popJ, pieceJ_wait] using hs2, ?_, by simpa [popJ, pieceJ_most] using h.most⟩
  · intro x hx
    have hx : x ∈ q := by simpa [popJ, pieceJ_wait] using hx
    have := hs1 x hx
    have h2 := h.waitK x (by rw [hw]; simp [hx])
    refine ⟨by simp [popJ]; omega, h2.2⟩
  · have := pieceJ_data { J with wait := q } J.next p.2 h.most.1 h.data
    simpa [popJ, pieceJ_most] using this

theorem step_ok {J J' : Jn} {K : Int} (h : OkJ J K) (hs : stepJ J = some J') : OkJ J' K ∧ phi J' < phi J ∧ J'.evs.length ≤ J.evs.length + 2 ∧ J'.nm = J.nm ∧ J'.room = J.room ∧ J'.most = J.most ∧ J'.last = J.last ∧ J'.wait.length ≤ J.wait.length := by
  have hlow := h.low
  unfold stepJ at hs
  cases hw : J.wait with
  | nil =>
    rw [hw] at hs
    simp only at hs
    split at hs
    · cases hs
    · rename_i hf
      cases hs
      refine ⟨lost_ok h (by omega) (by omega) (by rw [hw]; simp), ?_, by simp [lostJ, tellJ], rfl, rfl, rfl, rfl, by simp [lostJ, tellJ, hw]⟩
      have e1 : low (lostJ J (low J + 1)) = low J := rfl
      have e2 : (lostJ J (low J + 1)).wait = J.wait := rfl
      have e3 : (lostJ J (low J + 1)).next = low J + 1 := rfl
      unfold phi
      rw [e1, e2, e3, hw, if_pos (Int.le_refl _), if_neg hf]
      simp
  | cons p q =>
    rw [hw] at hs
    simp only at hs
    have hpk := h.waitK p (by rw [hw]; simp)
    split at hs
    · rename_i hp
      cases hs
      refine ⟨pop_ok h hw hp, ?_, ?_, by simp [popJ, pieceJ_nm], by simp [popJ, pieceJ_room], by simp [popJ, pieceJ_most], by simp [popJ, pieceJ_last], by simp [popJ, pieceJ_wait]⟩
      · have e2 : (popJ J p.2 q).wait = q := by simp [popJ, pieceJ_wait]
        unfold phi
        rw [e2, hw]
        simp only [List.length_cons]
        have : ∀ x : Nat, x ≤ 1 → ∀ y : Nat, y ≤ 1 → ∀ z t : Nat, 3 * q.length + x + y < 3 * (q.length + 1) + z + t := by intros; omega
        refine this _ ?_ _ ?_ _ _
        · repeat' split
          all_goals omega
        · split <;> omega
      · have := pieceJ_evs { J with wait := q } J.next p.2
        simpa [popJ] using this
    · rename_i hp
      split at hs
      · cases hs
      · rename_i hf
        cases hs
        have hle : ∀ x ∈ J.wait, min (low J + 1) p.1 ≤ x.1 := by
          intro x hx
          rw [hw] at hx
          rcases List.mem_cons.1 hx with e | e
          · subst e; omega
          · have hs := h.sort
            rw [hw] at hs
            have := (List.pairwise_cons.1 hs).1 x e
            omega
        refine ⟨lost_ok h (by omega) (by omega) hle, ?_, by simp [lostJ, tellJ], rfl, rfl, rfl, rfl, by simp [lostJ, tellJ, hw]⟩
        have e1 : ∀ f, low (lostJ J f) = low J := fun _ => rfl
        have e2 : ∀ f, (lostJ J f).wait = J.wait := fun _ => rfl
        have e3 : ∀ f, (lostJ J f).next = f := fun _ => rfl
        unfold phi
        rw [e1, e2, e3, hw]
        simp only [if_neg hp]
        rcases Int.lt_or_le p.1 (low J + 1) with hc | hc
        · have hm : min (low J + 1) p.1 = p.1 := by omega
          rw [hm, if_pos rfl]
          split <;> split <;> omega
        · have hm : min (low J + 1) p.1 = low J + 1 := by omega
          rw [hm] at hf ⊢
          rw [if_pos (Int.le_refl _), if_neg hf]
          split <;> omega

theorem runN_none {J : Jn} (h : stepJ J = none) : ∀ n, runN n J = J
  | 0 => rfl
  | n + 1 => by simp [runN, h]
theorem runN_same {K : Int} : ∀ (n m : Nat) (J : Jn), OkJ J K → phi J ≤ n → phi J ≤ m → runN n J = runN m J := by
  intro n
  induction n with
  | zero =>
    intro m J h hn _
    cases hs : stepJ J with
    | none => rw [runN_none hs, runN_none hs]
    | some J' => have := (step_ok h hs).2.1; omega
  | succ n ih =>
    intro m J h hn hm
    cases hs : stepJ J with
    | none => rw [runN_none hs, runN_none hs]
    | some J' =>
      obtain ⟨h', hlt, -⟩ := step_ok h hs
      cases m with
      | zero => omega
      | succ m =>
        simp only [runN, hs]
        exact ih m J' h' (by omega) (by omega)
theorem run_step {J J' : Jn} {K : Int} (h : OkJ J K) (hs : stepJ J = some J') : runJ J = runJ J' := by
  obtain ⟨h', hlt, -⟩ := step_ok h hs
  have e1 : runJ J = runN (phi J + 1) J := runN_same _ _ _ h (Nat.le_refl _) (by omega)
  rw [e1]
  simp only [runN, hs]
  exact runN_same _ _ _ h' (by omega) (Nat.le_refl _)
theorem run_none {J : Jn} (hs : stepJ J = none) : runJ J = J := runN_none hs _

/-- A relation that every step hands on holds behind the run. -/
theorem run_rel {K : Int} {R : Jn → Prop} (hR : ∀ J J', OkJ J K → stepJ J = some J' → R J → R J') : ∀ (n : Nat) (J : Jn), phi J ≤ n → OkJ J K → R J → R (runJ J) ∧ OkJ (runJ J) K ∧ stepJ (runJ J) = none := by
  intro n
  induction n with
  | zero =>
    intro J hn h hr
    cases hs : stepJ J with
    | none => rw [run_none hs]; exact ⟨hr, h, hs⟩
    | some J' => have := (step_ok h hs).2.1; omega
  | succ n ih =>
    intro J hn h hr
    cases hs : stepJ J with
    | none => rw [run_none hs]; exact ⟨hr, h, hs⟩
    | some J' =>
      obtain ⟨h', hlt, -⟩ := step_ok h hs
      rw [run_step h hs]
      exact ih J' (by omega) h' (hR J J' h hs hr)
theorem run_ok {J : Jn} {K : Int} (h : OkJ J K) : OkJ (runJ J) K ∧ stepJ (runJ J) = none ∧ (runJ J).evs.length + 2 * phi (runJ J) ≤ J.evs.length + 2 * phi J ∧ (runJ J).nm = J.nm ∧ (runJ J).room = J.room ∧ (runJ J).most = J.most ∧ (runJ J).last = J.last ∧ (runJ J).wait.length ≤ J.wait.length := by
  obtain ⟨h1, h2, h3⟩ := run_rel (K := K) (R := fun J' => J'.evs.length + 2 * phi J' ≤ J.evs.length + 2 * phi J ∧ J'.nm = J.nm ∧ J'.room = J.room ∧ J'.most = J.most ∧ J'.last = J.last ∧ J'.wait.length ≤ J.wait.length) (fun J1 J2 ok hs hr => by
    obtain ⟨q1, q2, q3, q4, q5, q6, q7, q8⟩ := step_ok ok hs
    obtain ⟨r1, r2, r3, r4, r5, r6⟩ := hr
    exact ⟨by omega, q4.trans r2, q5.trans r3, q6.trans r4, q7.trans r5, Nat.le_trans q8 r6⟩) (phi J) J (Nat.le_refl _) h ⟨Nat.le_refl _, rfl, rfl, rfl, rfl, Nat.le_refl _⟩
  exact ⟨h2, h3, h1⟩

end Go.Proofs.YtgopklnfdlnojaaDoor.Je
namespace Go.Proofs.YtgopklnfdlnojaaDoor.Jf
open Go.RowKit Go.Proofs.YtgopklnfdlnojaaDoor.Ga Go.Proofs.YtgopklnfdlnojaaDoor.My Go.Proofs.YtgopklnfdlnojaaDoor.Gb Go.Proofs.YtgopklnfdlnojaaDoor.Gp Go.Proofs.YtgopklnfdlnojaaDoor.Ja Go.Proofs.YtgopklnfdlnojaaDoor.Jb Go.Proofs.YtgopklnfdlnojaaDoor.Jc Go.Proofs.YtgopklnfdlnojaaDoor.Jd Go.Proofs.YtgopklnfdlnojaaDoor.Je Go.Proofs.YtgopklnfdlnojaaDoorW.PrintWords Go.Proofs.YtgopklnfdlnojaaDoorW.PrintLast Go.Proofs.YtgopklnfdlnojaaDoorW.PrintMore
set_option linter.unusedVariables false
set_option linter.unusedSimpArgs false

/-- The map as read. -/
abbrev mapD (wv : List (Int × Value)) : DataW Value := .map (wv.map fun x => ((.int .i64 x.1 : Lit), (DataW.held x.2 : DataW Value)))
theorem own_tight {W : World} {bm n : Nat} {wv : List (Int × Value)} (h : W.ownsMap Tryd.prog 3 elemR bm n (mapD wv)) : W.ownsMap Tryd.prog 3 elemR bm wv.length (mapD wv) := by
  obtain ⟨es, clock, h1, h2, h3, h4⟩ := h
  refine ⟨es, clock, h1, h2, ?_, h4⟩
  have := congrArg Maps.size h4
  simp [Maps.size, length_sorted] at this
  omega
theorem has_hit (n : Int) (v : Value) (wv : List (Int × Value)) : Maps.has (mapD ((n, v) :: wv)) (.int .i64 n) = true := by simp [Maps.has, Lit.sameKey]
theorem at_hit (n : Int) (v : Value) (wv : List (Int × Value)) (zd : DataW Value) : (mapD ((n, v) :: wv)).atKey (.int .i64 n) zd = .held v := by simp [DataW.atKey, Lit.sameKey]
theorem has_miss (n : Int) (wv : List (Int × Value)) (h : ∀ x ∈ wv, x.1 ≠ n) : Maps.has (mapD wv) (.int .i64 n) = false := by
  simp only [Maps.has, List.any_eq_false, List.mem_map]
  rintro p ⟨x, hx, rfl⟩
  simpa [Lit.sameKey] using h x hx
theorem del_hit (n : Int) (v : Value) (wv : List (Int × Value)) (h : ∀ x ∈ wv, x.1 ≠ n) : (mapD ((n, v) :: wv)).del (.int .i64 n) = mapD wv := by
  simp only [DataW.del, List.map_cons]
  rw [List.filter_cons_of_neg (by simp [Lit.sameKey]), List.filter_eq_self.2]
  intro p hp
  obtain ⟨x, hx, rfl⟩ := List.mem_map.1 hp
  simpa [Lit.sameKey] using h x hx

theorem JM_map {W W' : World} {base g bm : Nat} {vl vd ve : Value} {wv wv' : List (Int × Value)} {er : List (List Value)} {J : Jn} {wait' : List (Int × S29)} (h : JM W base g bm vl vd ve wv er J) (hk : Kept W W' (fun k => k = bm))
    (hm : W'.ownsMap Tryd.prog 3 elemR bm wv'.length (mapD wv')) (hwv : All2 (WtOK W (Mut g bm vl vd ve)) wait' wv') (hs : wait'.Pairwise (fun p q => p.1 < q.1)) :
    JM W' base g bm vl vd ve wv' er { J with wait := wait' } ∧ Kept W W' (Mut g bm vl vd ve) := by
  obtain ⟨al, ad, ae, hgm⟩ := h.apart
  have hkM : Kept W W' (Mut g bm vl vd ve) := ⟨hk.1, fun k hk1 hs => hk.2 k hk1 (fun e => hs (.inr (.inl e)))⟩
  have hmut : ∀ k, k < W.heap.size → Mut g bm vl vd ve k → Mut g bm vl vd ve k := fun _ _ h => h
  refine ⟨⟨(hk.2 g (Array.getElem?_eq_some_iff.1 h.hg).1 hgm).trans h.hg, h.hgb, h.hbm, R_stay rfl h.hlast hk (fun k hk1 hs => (al k hk1).2.1 hs), R_stay rfl h.hdata hk (fun k hk1 hs => (ad k hk1).2.1 hs), R_stay rfl h.hevs hk (fun k hk1 hs => (ae k hk1).2.1 hs), h.hev.imp fun x y ⟨A, c, h1, h2, h3⟩ => ⟨A, c, h1, h2, h3.kept hkM hmut⟩, hm, hwv.imp fun x y ⟨h1, A, c, h2, h3, h4⟩ => ⟨h1, A, c, h2, h3, h4.kept hkM hmut⟩, hs⟩, hkM⟩

theorem kept_turned {W W' : World} {bm : Nat} (h : W.mapTurned W' bm) : Kept W W' (fun k => k = bm) :=
  ⟨h.grown.size, fun k hk hn => h.grown.block k hk (fun e => hn (by cases e; rfl))⟩
theorem below_turned {W W' : World} {bm base : Nat} (h : W.mapTurned W' bm) (hb : base ≤ bm) (hs : base ≤ W.heap.size) : Below base W W' :=
  (Below.refl base W).grown h.grown hs (fun k e => by cases e; exact hb)

theorem key64 {n : Int} (h0 : 0 ≤ n) (h1 : n ≤ 1000000000001) : keyOf Tryd.prog 3 (.int .i64 n) = some (.int .i64 n) := by
  have hwf : (Lit.int .i64 n).wf = true := by
    have e1 : IntKind.i64.min = -9223372036854775808 := rfl
    have e2 : IntKind.i64.max = 9223372036854775807 := rfl
    simp [Lit.wf, e1, e2]
    omega
  simp [keyOf, Tryd.underlying3, mapKey, hwf]
theorem look {W : World} {bm n : Nat} {wv : List (Int × Value)} (h : W.ownsMap Tryd.prog 3 elemR bm n (mapD wv)) (x : Int) (h0 : 0 ≤ x) (h1 : x ≤ 1000000000001) :
    ∃ es clock v, W.heap[bm]? = some (.map es clock) ∧ (.held v : DataW Value) = (mapD wv).atKey (.int .i64 x) (.held (.agg #[.bool false, .bool false, .int .i64 0, .slice none 0 0])) ∧ ∀ w' : World, w'.heap[bm]? = some (.map es clock) → (Instr.lookup 99 (.map (some bm)) (.int .i64 x) true).run Tryd.prog w' = .ok (.tuple #[v, .bool (Maps.has (mapD wv) (.int .i64 x))]) w' := by
  obtain ⟨es, clock, hb, F, hs, hD⟩ := h
  obtain ⟨v, ps, hrun, hv⟩ := World.ownsMap.look_ok (w := W) ⟨es, clock, hb, F, hs, hD⟩ (Maps.int_keyed Tryd.underlying3) Tryd.underlying99 (Tryd.zeroValue29 W) (zd := .held (.agg #[.bool false, .bool false, .int .i64 0, .slice none 0 0])) (zp := []) rfl (key64 h0 h1)
  refine ⟨es, clock, v, hb, ?_, fun w' hw' => ?_⟩
  · simp [elemR] at hv
    exact hv.1
  · obtain ⟨v', ps', hrun', hv'⟩ := World.ownsMap.look_ok (w := w') ⟨es, clock, hw', F, hs, hD⟩ (Maps.int_keyed Tryd.underlying3) Tryd.underlying99 (Tryd.zeroValue29 w') (zd := .held (.agg #[.bool false, .bool false, .int .i64 0, .slice none 0 0])) (zp := []) rfl (key64 h0 h1)
    simp [elemR] at hv hv'
    have e : v' = v := by
      have := hv'.1.trans hv.1.symm
      simpa using this
    rw [← e]
    exact hrun'

theorem all2_cons {α β : Type} {R : α → β → Prop} {x : α} {xs : List α} {ys : List β} (h : All2 R (x :: xs) ys) : ∃ y ys', ys = y :: ys' ∧ R x y ∧ All2 R xs ys' := by
  obtain ⟨h1, h2⟩ := h
  cases ys with
  | nil => simp at h1
  | cons y ys => exact ⟨y, ys, rfl, h2 0 x y rfl rfl, by simpa using h1, fun j a b ha hb => h2 (j + 1) a b (by simpa using ha) (by simpa using hb)⟩

/-- What stands in the map at the place that is next. -/
theorem look_jm {W : World} {base g bm : Nat} {vl vd ve : Value} {wv : List (Int × Value)} {er : List (List Value)} {J : Jn} {K : Int} (h : JM W base g bm vl vd ve wv er J) (ok : OkJ J K) (hK : K ≤ 1000000000000) :
    ∃ b f0 f1 f2 A l c, (∀ W' : World, W'.heap[bm]? = W.heap[bm]? → (Instr.lookup 99 (.map (some bm)) (.int .i64 J.next) true).run Tryd.prog W' = .ok (.tuple #[pc f0 f1 f2 A l c, .bool b]) W') ∧
      ((b = true ∧ ∃ p q wv', J.wait = p :: q ∧ p.1 = J.next ∧ f0 = p.2.f0 ∧ f1 = p.2.f1 ∧ f2 = p.2.f2 ∧ l = p.2.f3.length ∧ l ≤ c ∧ Sl W (Mut g bm vl vd ve) A l p.2.f3 ∧ wv = (p.1, pc f0 f1 f2 A l c) :: wv' ∧ All2 (WtOK W (Mut g bm vl vd ve)) q wv' ∧ (∀ x ∈ wv', x.1 ≠ J.next)) ∨
       (b = false ∧ ∀ p q, J.wait = p :: q → p.1 ≠ J.next)) := by
  have hnx := ok.next0
  have hnx2 := ok.nextK
  obtain ⟨es, clock, v, hb, hv, hrun⟩ := look h.hmap J.next hnx (by omega)
  have hpl := places_wv h
  have hmiss : (∀ x ∈ wv, x.1 ≠ J.next) → ∃ b f0 f1 f2 A l c, (∀ W' : World, W'.heap[bm]? = W.heap[bm]? → (Instr.lookup 99 (.map (some bm)) (.int .i64 J.next) true).run Tryd.prog W' = .ok (.tuple #[pc f0 f1 f2 A l c, .bool b]) W') ∧ b = false := by
    intro hall
    have hm := has_miss J.next wv hall
    rw [Maps.atKey_of_not_has hm] at hv
    have hv2 : v = pc false false 0 none 0 0 := by simpa using hv
    refine ⟨false, false, false, 0, none, 0, 0, fun W' hW' => ?_, rfl⟩
    have := hrun W' (hW'.trans hb)
    rw [hm, hv2] at this
    exact this
  cases hw : J.wait with
  | nil =>
    have hz : wv = [] := List.length_eq_zero_iff.1 (by rw [h.hwv.1, hw]; rfl)
    obtain ⟨b, f0, f1, f2, A, l, c, h1, h2⟩ := hmiss (by rw [hz]; simp)
    exact ⟨b, f0, f1, f2, A, l, c, h1, .inr ⟨h2, fun p q e => by cases e⟩⟩
  | cons p q =>
    have hwv := h.hwv
    rw [hw] at hwv
    obtain ⟨y, wv', rfl, ⟨hy1, A, c, hy2, hc, hsl⟩, hall⟩ := all2_cons hwv
    have hsort := h.hsort
    rw [hw] at hsort
    obtain ⟨hs1, hs2⟩ := List.pairwise_cons.1 hsort
    have hrest : ∀ x ∈ wv', p.1 < x.1 := by
      intro x hx
      have : x.1 ∈ wv'.map (·.1) := List.mem_map_of_mem hx
      have e : wv'.map (·.1) = q.map (·.1) := by
        have := hpl
        simp only [places, hw, List.map_cons, List.cons.injEq] at this
        exact this.2
      rw [e] at this
      obtain ⟨z, hz, hzx⟩ := List.mem_map.1 this
      have := hs1 z hz
      omega
    by_cases hp : p.1 = J.next
    · have e : y = (J.next, y.2) := by rw [← hp, ← hy1]
      have hh : Maps.has (mapD (y :: wv')) (.int .i64 J.next) = true := by rw [e]; exact has_hit _ _ _
      have ha : v = y.2 := by
        rw [e, at_hit] at hv
        simpa using hv
      refine ⟨true, p.2.f0, p.2.f1, p.2.f2, A, p.2.f3.length, c, fun W' hW' => ?_, .inl ⟨rfl, p, q, wv', rfl, hp, rfl, rfl, rfl, rfl, hc, hsl, ?_, hall, fun x hx => ?_⟩⟩
      · have := hrun W' (hW'.trans hb)
        rw [hh, ha, hy2] at this
        exact this
      · rw [← hy2, ← hy1]
      · have := hrest x hx; omega
    · obtain ⟨b, f0, f1, f2, A', l, c', h1, h2⟩ := hmiss (by
        intro x hx
        have hle := (ok.waitK p (by rw [hw]; simp)).1
        rcases List.mem_cons.1 hx with e | e
        · rw [e, hy1]; exact hp
        · have := hrest x e; omega)
      exact ⟨b, f0, f1, f2, A', l, c', h1, .inr ⟨h2, fun p' q' e => by cases e; exact hp⟩⟩

/-- The least of a row of numbers. -/
theorem min_any {W : World} {base : Nat} {ok : Nat → Prop} {vl : Value} {xs : List Int} (h : (Kd.int .i64).R 3 W base ok vl xs) (hne : xs ≠ []) : Calls Tryd.prog 59 #[vl] W fun e w' => e = .returned (.int .i64 (Lib.minOf xs)) ∧ w' = W := by
  obtain ⟨inner, hown⟩ := Kd.R_own h
  have hpos : 0 < xs.length := List.length_pos_iff.2 hne
  rcases hown.2 with ⟨_, hz⟩ | ⟨g, cap, cur, rfl, _⟩
  · omega
  · have hC := (Kd.R_reads' h).2.2
    have hbig := hC.2.1
    have := AnyG.slices_Min_int Tryd.jMin g 0 xs.length cap xs W hpos (Nat.le_refl _) hbig (fun j hj => by
      obtain ⟨ad, e, hc⟩ := Kd.at_int hC (j : Int) (by omega) (by omega)
      cases e
      by_cases h0 : j = 0
      · subst h0; simpa [Addr.add, rd] using hc
      · simpa [Addr.add, rd, h0] using hc)
    rw [List.take_length] at this
    exact this

set_option maxHeartbeats 4000000 in
set_option maxRecDepth 100000 in
theorem run_any (W : World) (base g bm : Nat) (vl vd ve : Value) (wv : List (Int × Value)) (er : List (List Value)) (J : Jn) (K : Int) (h : JM W base g bm vl vd ve wv er J) (ok : OkJ J K) (hK : K ≤ 1000000000000) (hb : base ≤ W.heap.size) (hlen : er.length + 2 * phi J ≤ 80000) :
    Calls Tryd.prog 50 #[.pointer (some ⟨g, 0, none⟩)] W fun e W' => ∃ vd' ve' wv' er', (∃ v, e = .returned v) ∧
      JM W' base g bm vl vd' ve' wv' er' (runJ J) ∧ Kept W W' (Mut g bm vl vd ve) ∧ (∀ k, k < W.heap.size → Mut g bm vl vd' ve' k → Mut g bm vl vd ve k) ∧ Below base W W' := by
  have HJ := Aside0.mk h
  have HOK := Aside0.mk ok
  have HLEN := Aside0.mk hlen
  clear h ok hlen
  go_enter Tryd.func50, Tryd.ntmps50
  go_wp2_with (fail)
  go_loopg [2] (phi J) (fun k v2 wr => Aside0 (∃ vd1 ve1 wv1 er1 J1, k = phi J1 ∧ JM wr base g bm vl vd1 ve1 wv1 er1 J1 ∧ OkJ J1 K ∧ runJ J1 = runJ J ∧ er1.length + 2 * phi J1 ≤ er.length + 2 * phi J ∧ Kept W wr (Mut g bm vl vd ve) ∧ (∀ k, k < W.heap.size → Mut g bm vl vd1 ve1 k → Mut g bm vl vd ve k) ∧ Below base W wr))
  case atStart => exact ⟨vd, ve, wv, er, J, rfl, HJ.out, HOK.out, rfl, Nat.le_refl _, Kept.refl _ _, fun _ _ h => h, Below.refl _ _⟩
  case round =>
    obtain ⟨vd1, ve1, wv1, er1, J1, rfl, hJ1, hok1, hrun, hlen1, hk1, hm1, hb1⟩ := hrel.out
    clear hrel
    have HJ1 := Aside0.mk hJ1
    have HOK1 := Aside0.mk hok1
    have HRUN := Aside0.mk hrun
    have HLEN1 := Aside0.mk hlen1
    have HK1 := Aside0.mk hk1
    have HM1 := Aside0.mk hm1
    have HB1 := Aside0.mk hb1
    have hg := hJ1.hg
    have c3 := blk_cell hg 3
    have c4 := blk_cell hg 4
    have c5 := blk_cell hg 5
    have fz : ∀ j, wr.frozen? ⟨g, j, none⟩ = false := fun j => blk_frozen hg j
    simp at c3 c4 c5
    obtain ⟨b, f0, f1, f2, A, l, c, hlk, hcase⟩ := look_jm hJ1 hok1 hK
    have HCASE := Aside0.mk hcase
    have hlk1 := hlk wr.drew rfl
    have hlk2 := fun o => hlk (wr.alloc o).drew ((below_alloc (Below.refl wr.heap.size wr) o).block bm (mut_lt hJ1 bm (.inr (.inl rfl))))
    clear hcase hlk hJ1 hok1 hrun hlen1 hk1 hm1 hb1 hg
    have hnew := fun o => World.new_ne (wr.drew.alloc o)
    go_upto_region 0 with (fail)
    go_cut [2, 3] (fun v2 v3 wc => v3 = .bool b ∧ ∃ n, v2 = .pointer (some ⟨n, 0, none⟩) ∧ wr.heap.size ≤ n ∧ wc.heap[n]? = some (.cells #[.bool f0, .bool f1, .int .i64 f2, .slice A l c] 29 (0, 0)) ∧ Below wr.heap.size wr wc)
    case first =>
      go_region_held3 (fun w' => w'.cell? ⟨g, 4, none⟩ = some (.map (some bm)) ∧ w'.cell? ⟨g, 5, none⟩ = some (.int .i64 J1.next)) (first | go_keep) (first | fail)
      all_goals
        go_wp2
        go_meet
        exact ⟨rfl, wr.heap.size, rfl, Nat.le_refl _, new1 wr _, below_drew (below_alloc (Below.refl _ wr) _)⟩
    case rest =>
      obtain ⟨rfl, n, rfl, hn, hcn, hbc⟩ := hcut
      clear hlk1 hlk2 hnew fz
      have hJc := jm_below HJ1.out hbc
      have HJC := Aside0.mk hJc
      have HBC := Aside0.mk hbc
      have hg := hJc.hg
      have c3 := blk_cell hg 3
      have c4 := blk_cell hg 4
      have c5 := blk_cell hg 5
      simp at c3 c4 c5
      have hmap := hJc.hmap
      have HN := Aside0.mk (And.intro hn hcn)
      clear hn hcn hg hbc hJc
      rcases HCASE.out with ⟨rfl, p, q, wv', hw, hp, rfl, rfl, rfl, rfl, hlc, hsl, rfl, hall, hne⟩ | ⟨rfl, hmiss⟩
      · have hnx := HOK1.out.next0
        have hnx2 := HOK1.out.nextK
        have hkey := key64 hnx (show J1.next ≤ 1000000000001 by omega)
        have HX := Aside0.mk (And.intro hw (And.intro hp (And.intro hlc (And.intro hsl (And.intro hall hne)))))
        clear hw hp hlc hsl hall hne HCASE hnx hnx2
        go_wp2_with (fail)
        go_still_tail 8, (by kernel_rfl)
        change wpList _ _ _ _ _ wc.drew
        have hmapd : wc.drew.ownsMap Tryd.prog 3 elemR bm _ _ := hmap
        go_wp2_with (at_delete; refine wpList_delete_own _ rfl _ _ 99 3 rfl 29 (Maps.int_keyed Tryd.underlying3) Tryd.underlying99 elemR bm _ _ rfl hmapd _ _ rfl hkey ?_; intro w1 hown1 hturn1)
        have hX := HX.out
        obtain ⟨hw, hp, hlc, hsl, hall, hne⟩ := hX
        rw [hp, del_hit _ _ _ hne] at hown1
        have hwv2 := HJC.out.hwv
        rw [hw] at hwv2
        obtain ⟨y, ys, hyy, ⟨hy1, hy2⟩, hall2⟩ := all2_cons hwv2
        have hyt : ys = wv' := by cases hyy; rfl
        subst hyt
        have hsrt := HJC.out.hsort
        rw [hw] at hsrt
        obtain ⟨hJ3, hk3⟩ := JM_map (jm_drew HJC.out) (kept_turned hturn1) (own_tight hown1) hall2 (List.pairwise_cons.1 hsrt).2
        have hsl1 : Sl w1 (Mut g bm vl vd1 ve1) A p.2.f3.length p.2.f3 := (hsl.kept (kept_of_below HBC.out _) (fun _ _ h => h)).kept hk3 (fun _ _ h => h)
        have hbel3 : Below base wr w1 := (HBC.out.mono (Nat.le_trans hb HB1.out.size)).trans ((below_drew (Below.refl base wc)).trans (below_turned hturn1 HJ.out.hbm (Nat.le_trans hb (Nat.le_trans HB1.out.size HBC.out.size))))
        have hk31 : Kept wr w1 (Mut g bm vl vd1 ve1) := kept_trans (kept_of_below HBC.out _) hk3 (fun _ _ h => h)
        have hnm : ¬ Mut g bm vl vd1 ve1 n := fun e => by have := mut_lt HJ1.out _ e; have := HN.out.1; omega
        have hnl : n < wc.heap.size := (Array.getElem?_eq_some_iff.1 HN.out.2).1
        have hcn3 := (hk3.2 n hnl hnm).trans HN.out.2
        have hg3 := hJ3.hg
        have c5 := blk_cell hg3 5
        simp at c5
        obtain ⟨p0, p1, p2, p3⟩ := cells4 hcn3
        have HJ3 := Aside0.mk hJ3
        have HSL := Aside0.mk hsl1
        have HB3 := Aside0.mk hbel3
        have HK3 := Aside0.mk hk31
        have HCN := Aside0.mk (And.intro hnm hcn3)
        have hdl : J1.data.length + p.2.f3.length ≤ 10000000 := by
          have h1 := HOK1.out.data
          have h2 := HOK1.out.most
          have h3 := (HOK1.out.waitK p (by rw [hw]; simp)).2.2
          omega
        have hlen2 : er1.length ≤ 90000 := by
          have h1 := HLEN1.out
          have h2 := HLEN.out
          omega
        have hbw : base ≤ w1.heap.size := Nat.le_trans hb (Nat.le_trans HB1.out.size hbel3.size)
        have HA := Aside0.mk (And.intro hdl (And.intro hlen2 (And.intro hbw (And.intro hlc HOK1.out.nm0))))
        clear hw hp hlc hsl hall hne hown1 hturn1 hwv2 hyy hy1 hy2 hall2 hsrt hJ3 hk3 hsl1 hbel3 hk31 hnm hnl hcn3 hg3 hdl hlen2 hbw c3 c4 hmap hmapd
        simp only [Act.put]
        go_region_held3 (fun w' => w'.cell? ⟨g, 5, none⟩ = some (.int .i64 J1.next) ∧ w'.cell? ⟨n, 0, none⟩ = some (.bool p.2.f0) ∧ w'.cell? ⟨n, 1, none⟩ = some (.bool p.2.f1) ∧ w'.cell? ⟨n, 2, none⟩ = some (.int .i64 p.2.f2) ∧ w'.cell? ⟨n, 3, none⟩ = some (.slice A p.2.f3.length c)) (first | go_keep)
          (first | (go_at_call 58; refine (piece_any _ base g bm vl vd1 ve1 ys er1 { J1 with wait := q } J1.next p.2 A c (jm_drew HJ3.out) HA.out.2.2.2.2 HA.out.2.2.1 HA.out.2.1 HA.out.1 HA.out.2.2.2.1 HSL.out).mono ?_; rintro e2 w2 ⟨vd2, ve2, er2, ⟨v2, rfl⟩, hle2, hJ2, hk2, hm2, hb2⟩; have HJ2 := Aside0.mk hJ2; have HK2 := Aside0.mk hk2; have HM2 := Aside0.mk hm2; have HB2 := Aside0.mk hb2; have HLE2 := Aside0.mk hle2; have y5 := blk_cell hJ2.hg 5; have hcn4 := (hk2.2 n (Array.getElem?_eq_some_iff.1 HCN.out.2).1 HCN.out.1).trans HCN.out.2; obtain ⟨z0, z1, z2, z3⟩ := cells4 hcn4; simp [pieceJ_next] at y5; clear hJ2 hk2 hm2 hb2 hle2 hcn4))
        have fz2 : ∀ j, w2.frozen? ⟨g, j, none⟩ = false := fun j => blk_frozen HJ2.out.hg j
        have hwr : IntKind.i64.wrap (J1.next + 1) = J1.next + 1 := IntWalk.i64_in _ (by have := HOK1.out.next0; have := HOK1.out.nextK; omega)
        go_wp2
        have hs := blk_set HJ2.out.hg 5 (.int .i64 (J1.next + 1))
        have hk : Kept w2 (w2.setCell ⟨g, 5, none⟩ (.int .i64 (J1.next + 1))) (fun k => k = g) := ⟨by simp [World.setCell], fun k _ hs => far_cell _ g 5 k _ hs⟩
        obtain ⟨h1, h2, h3⟩ := JM_cells (J' := popJ J1 p.2 q) HJ2.out hk (by simpa [popJ] using hs) (.inl ⟨rfl, rfl⟩) (.inl ⟨rfl, rfl, rfl⟩) rfl rfl
        have hst : stepJ J1 = some (popJ J1 p.2 q) := by
          obtain ⟨hw, hp, -⟩ := HX.out
          unfold stepJ
          rw [hw]
          simp only
          rw [if_pos hp]
        obtain ⟨q1, q2, q3, q4⟩ := step_ok HOK1.out hst
        have hkk : Kept wr w2 (Mut g bm vl vd1 ve1) := kept_trans HK3.out (kept_trans (kept_of_below (below_drew (Below.refl _ _)) _) HK2.out (fun _ _ h => h)) (fun _ _ h => h)
        go_roundg (phi (popJ J1 p.2 q))
        case measure => exact q2
        case rel =>
          refine ⟨vd2, ve2, ys, er2, popJ J1 p.2 q, rfl, h1, q1, (run_step HOK1.out hst).symm.trans HRUN.out, ?_, ?_, ?_, ?_⟩
          · have := HLE2.out
            have := HLEN1.out
            omega
          · exact kept_trans HK1.out (kept_trans hkk h2 (fun k hk1 hm => HM2.out k (Nat.lt_of_lt_of_le hk1 HK3.out.1) hm)) HM1.out
          · intro k hk1 hm
            have hl : k < wr.heap.size := Nat.lt_of_lt_of_le hk1 HK1.out.1
            exact HM1.out k hk1 (HM2.out k (Nat.lt_of_lt_of_le hl HK3.out.1) (h3 k (Nat.lt_of_lt_of_le hl hkk.1) hm))
          · exact HB1.out.trans ((HB3.out.trans ((below_drew (Below.refl base w1)).trans HB2.out)).setCell (p := ⟨g, 5, none⟩) HJ.out.hgb _)
      · have hnx := HOK1.out.next0
        have hnx2 := HOK1.out.nextK
        have HM := Aside0.mk hmiss
        have hlw := HOK1.out.low
        have hmin := min_any HJC.out.hlast HOK1.out.last0
        have hnx3 : IntKind.i64.wrap (low J1 + 1) = low J1 + 1 := IntWalk.i64_in _ (by omega)
        change Calls Tryd.prog 59 _ _ (fun e w' => e = .returned (.int .i64 (low J1)) ∧ w' = wc) at hmin
        have HWL := Aside0.mk (show J1.wait.length ≤ 100000 by
          have h1 := HLEN1.out
          have h2 := HLEN.out
          have h3 : 3 * J1.wait.length ≤ phi J1 := by unfold phi; omega
          omega)
        obtain ⟨lw, hlwe⟩ : ∃ lw, low J1 = lw := ⟨_, rfl⟩
        have HLW := Aside0.mk hlwe
        have HNX := Aside0.mk (And.intro hlw (And.intro hnx hnx2))
        rw [hlwe] at hmin hnx3
        clear hmiss HCASE hmap c4 hlw hnx hnx2 hlwe
        cases hw : J1.wait with
        | nil =>
          have HW := Aside0.mk hw
          have hah := (ahead_any wc base g bm vl vd1 ve1 wv1 er1 J1 HJC.out HWL.out).mono (R' := fun e W' => e = .returned (.tuple #[.int .i64 0, .bool false]) ∧ W' = wc) (by
            rintro e w' (⟨-, rfl, rfl⟩ | ⟨p, q, hpq, -, -⟩)
            · exact ⟨rfl, rfl⟩
            · rw [hw] at hpq; cases hpq)
          clear hw
          by_cases hle : lw + 1 ≤ J1.next
          · have hst : stepJ J1 = none := by
              unfold stepJ
              rw [HW.out]
              simp only
              rw [if_pos (by rw [HLW.out]; exact hle)]
            have hrj : J1 = runJ J := (run_none hst).symm.trans HRUN.out
            have HRJ := Aside0.mk hrj
            clear hst hrj
            go_wp2_with (first | (go_at_call 59; refine hmin.mono ?_; rintro e w' ⟨rfl, rfl⟩) | (go_at_call 56; refine hah.mono ?_; rintro e w' ⟨rfl, rfl⟩))
            refine bodyPost_ret (results_none rfl _ _ _) rfl ?_
            exact ⟨vd1, ve1, wv1, er1, ⟨_, rfl⟩, HRJ.out ▸ HJC.out, kept_trans HK1.out (kept_of_below HBC.out (Mut g bm vl vd1 ve1)) HM1.out, HM1.out, HB1.out.trans (HBC.out.mono (Nat.le_trans hb HB1.out.size))⟩
          · have hwrp : IntKind.i64.wrap (lw + 1 - J1.next) = lw + 1 - J1.next := IntWalk.i64_in _ (by have := HNX.out; have := HLW.out; omega)
            have HBS := Aside0.mk (show base ≤ wc.heap.size from Nat.le_trans hb (Nat.le_trans HB1.out.size HBC.out.size))
            have HL2 := Aside0.mk (show er1.length ≤ 100000 by
              have h1 := HLEN1.out
              have h2 := HLEN.out
              omega)
            have hst : stepJ J1 = some (lostJ J1 (lw + 1)) := by
              unfold stepJ
              rw [HW.out]
              simp only
              rw [HLW.out, if_neg hle]
            obtain ⟨q1, q2, q3, q4⟩ := step_ok HOK1.out hst
            go_wp2_with (first | (go_at_call 59; refine hmin.mono ?_; rintro e w' ⟨rfl, rfl⟩) | (go_at_call 56; refine hah.mono ?_; rintro e w' ⟨rfl, rfl⟩) | (go_at_call 57; refine (lose_any _ base g bm vl vd1 ve1 wv1 er1 J1 (lw + 1) HJC.out HOK1.out.nm0 HBS.out HL2.out hwrp).mono ?_; rintro e w2 ⟨ve2, er2, ⟨v2, rfl⟩, hle2, hJ2, hk2, hm2, hb2⟩; have HX2 := Aside0.mk (And.intro hle2 (And.intro hJ2 (And.intro hk2 (And.intro hm2 hb2)))); clear hle2 hJ2 hk2 hm2 hb2))
            obtain ⟨hle2, hJ2, hk2, hm2, hb2⟩ := HX2.out
            have hkk := kept_trans HK1.out (kept_trans (kept_of_below HBC.out (Mut g bm vl vd1 ve1)) hk2 (fun _ _ h => h)) HM1.out
            go_roundg (phi (lostJ J1 (lw + 1)))
            case measure => exact q2
            case rel =>
              refine ⟨_, ve2, wv1, er2, lostJ J1 (lw + 1), rfl, hJ2, q1, (run_step HOK1.out hst).symm.trans HRUN.out, ?_, hkk, fun k hk1 hm => HM1.out k hk1 (hm2 k (Nat.lt_of_lt_of_le (Nat.lt_of_lt_of_le hk1 HK1.out.1) HBC.out.size) hm), (HB1.out.trans (HBC.out.mono (Nat.le_trans hb HB1.out.size))).trans hb2⟩
              have := HLEN1.out
              omega
        | cons p q =>
          have HW := Aside0.mk hw
          have hah := (ahead_any wc base g bm vl vd1 ve1 wv1 er1 J1 HJC.out HWL.out).mono (R' := fun e W' => e = .returned (.tuple #[.int .i64 p.1, .bool true]) ∧ Below wc.heap.size wc W') (by
            rintro e w' (⟨hn, -, -⟩ | ⟨p', q', hpq, he, hbb⟩)
            · rw [hw] at hn; cases hn
            · rw [hw] at hpq; cases hpq; exact ⟨he, hbb⟩)
          clear hw
          have hpk := HOK1.out.waitK p (by rw [HW.out]; simp)
          have HPK := Aside0.mk hpk
          clear hpk
          by_cases hle : min (lw + 1) p.1 ≤ J1.next
          · have hst : stepJ J1 = none := by
              unfold stepJ
              rw [HW.out]
              simp only
              rw [HLW.out, if_neg (HM.out p q HW.out), if_pos hle]
            have hrj : J1 = runJ J := (run_none hst).symm.trans HRUN.out
            have HRJ := Aside0.mk hrj
            clear hst hrj
            go_wp2_with (first | (go_at_call 59; refine hmin.mono ?_; rintro e w' ⟨rfl, rfl⟩) | (go_at_call 56; refine hah.mono ?_; rintro e w' ⟨rfl, hba⟩; have HBA := Aside0.mk hba; have c5a := (hba.cell (p := ⟨g, 5, none⟩) (Array.getElem?_eq_some_iff.1 HJC.out.hg).1).trans c5; clear hba))
            refine bodyPost_ret (results_none rfl _ _ _) rfl ?_
            exact ⟨vd1, ve1, wv1, er1, ⟨_, rfl⟩, HRJ.out ▸ jm_below HJC.out HBA.out, kept_trans HK1.out (kept_of_below (HBC.out.trans (HBA.out.mono HBC.out.size)) (Mut g bm vl vd1 ve1)) HM1.out, HM1.out, HB1.out.trans ((HBC.out.trans (HBA.out.mono HBC.out.size)).mono (Nat.le_trans hb HB1.out.size))⟩
          · have hwrp : IntKind.i64.wrap (min (lw + 1) p.1 - J1.next) = min (lw + 1) p.1 - J1.next := IntWalk.i64_in _ (by have := HNX.out; have := HLW.out; have := HPK.out.1; have := HPK.out.2.1; omega)
            have HBS := Aside0.mk (show base ≤ wc.heap.size from Nat.le_trans hb (Nat.le_trans HB1.out.size HBC.out.size))
            have HL2 := Aside0.mk (show er1.length ≤ 100000 by
              have h1 := HLEN1.out
              have h2 := HLEN.out
              omega)
            have hst : stepJ J1 = some (lostJ J1 (min (lw + 1) p.1)) := by
              unfold stepJ
              rw [HW.out]
              simp only
              rw [HLW.out, if_neg (HM.out p q HW.out), if_neg hle]
            obtain ⟨q1, q2, q3, q4⟩ := step_ok HOK1.out hst
            go_wp2_with (first | (go_at_call 59; refine hmin.mono ?_; rintro e w' ⟨rfl, rfl⟩) | (go_at_call 56; refine hah.mono ?_; rintro e w' ⟨rfl, hba⟩; have HBA := Aside0.mk hba; have c5a := (hba.cell (p := ⟨g, 5, none⟩) (Array.getElem?_eq_some_iff.1 HJC.out.hg).1).trans c5; have HBS2 := Aside0.mk (Nat.le_trans HBS.out hba.size); clear hba) | (go_at_call 57; refine (lose_any _ base g bm vl vd1 ve1 wv1 er1 J1 (min (lw + 1) p.1) (jm_below HJC.out HBA.out) HOK1.out.nm0 HBS2.out HL2.out hwrp).mono ?_; rintro e w2 ⟨ve2, er2, ⟨v2, rfl⟩, hle2, hJ2, hk2, hm2, hb2⟩; have HX2 := Aside0.mk (And.intro hle2 (And.intro hJ2 (And.intro hk2 (And.intro hm2 hb2)))); clear hle2 hJ2 hk2 hm2 hb2))
            obtain ⟨hle2, hJ2, hk2, hm2, hb2⟩ := HX2.out
            have hkk := kept_trans HK1.out (kept_trans (kept_of_below (HBC.out.trans (HBA.out.mono HBC.out.size)) (Mut g bm vl vd1 ve1)) hk2 (fun _ _ h => h)) HM1.out
            go_roundg (phi (lostJ J1 (min (lw + 1) p.1)))
            case measure => exact q2
            case rel =>
              refine ⟨_, ve2, wv1, er2, lostJ J1 (min (lw + 1) p.1), rfl, hJ2, q1, (run_step HOK1.out hst).symm.trans HRUN.out, ?_, hkk, fun k hk1 hm => HM1.out k hk1 (hm2 k (Nat.lt_of_lt_of_le (Nat.lt_of_lt_of_le hk1 HK1.out.1) (HBC.out.trans (HBA.out.mono HBC.out.size)).size) hm), (HB1.out.trans ((HBC.out.trans (HBA.out.mono HBC.out.size)).mono (Nat.le_trans hb HB1.out.size))).trans hb2⟩
              have := HLEN1.out
              omega

end Go.Proofs.YtgopklnfdlnojaaDoor.Jf
namespace Go.Proofs.YtgopklnfdlnojaaDoor.Jg
open Go.RowKit Go.Proofs.YtgopklnfdlnojaaDoor.Ga Go.Proofs.YtgopklnfdlnojaaDoor.My Go.Proofs.YtgopklnfdlnojaaDoor.Gb Go.Proofs.YtgopklnfdlnojaaDoor.Gp Go.Proofs.YtgopklnfdlnojaaDoor.Ja Go.Proofs.YtgopklnfdlnojaaDoor.Jb Go.Proofs.YtgopklnfdlnojaaDoor.Jc Go.Proofs.YtgopklnfdlnojaaDoor.Jd Go.Proofs.YtgopklnfdlnojaaDoor.Je Go.Proofs.YtgopklnfdlnojaaDoor.Jf Go.Proofs.YtgopklnfdlnojaaDoorW.PrintWords Go.Proofs.YtgopklnfdlnojaaDoorW.PrintLast Go.Proofs.YtgopklnfdlnojaaDoorW.PrintMore
set_option linter.unusedVariables false
set_option linter.unusedSimpArgs false

def skipJ (J : Jn) : Jn := match J.wait with | [] => J | p :: _ => runJ (lostJ J p.1)
def thinN : Nat → Nat → Jn → Jn
  | 0, _, J => J
  | n + 1, room, J => if room < J.wait.length then thinN n room (skipJ J) else J
def thinJ (room : Nat) (J : Jn) : Jn := thinN J.wait.length room J

theorem skip_lost {J : Jn} {K : Int} {p : Int × S29} {q : List (Int × S29)} (ok : OkJ J K) (hst : stepJ J = none) (hw : J.wait = p :: q) : OkJ (lostJ J p.1) K ∧ (lostJ J p.1).evs.length + 2 * phi (lostJ J p.1) ≤ J.evs.length + 2 * phi J ∧ 2 * phi (lostJ J p.1) + 2 ≤ 2 * phi J ∧ stepJ (lostJ J p.1) = some (popJ (lostJ J p.1) p.2 q) := by
  have hpk := ok.waitK p (by rw [hw]; simp)
  have hsort := ok.sort
  rw [hw] at hsort
  have h1 : OkJ (lostJ J p.1) K := lost_ok ok hpk.1 (by omega) (fun x hx => by
    rw [hw] at hx
    rcases List.mem_cons.1 hx with e | e
    · rw [e]; exact Int.le_refl _
    · have := (List.pairwise_cons.1 hsort).1 x e; omega)
  have hne : p.1 ≠ J.next := by
    intro e
    unfold stepJ at hst
    rw [hw] at hst
    simp only [if_pos e] at hst
    cases hst
  have hphi : phi (lostJ J p.1) + 1 ≤ phi J := by
    have e1 : low (lostJ J p.1) = low J := rfl
    have e2 : (lostJ J p.1).wait = J.wait := rfl
    have e3 : (lostJ J p.1).next = p.1 := rfl
    unfold phi
    rw [e1, e2, e3, hw]
    simp only [if_neg hne, if_pos]
    split <;> split <;> omega
  have hev : (lostJ J p.1).evs.length = J.evs.length + 1 := by simp [lostJ, tellJ]
  refine ⟨h1, by omega, by omega, ?_⟩
  unfold stepJ
  have e2 : (lostJ J p.1).wait = J.wait := rfl
  have e3 : (lostJ J p.1).next = p.1 := rfl
  rw [e2, e3, hw]
  simp only [if_true]

theorem skip_ok {J : Jn} {K : Int} (ok : OkJ J K) (hst : stepJ J = none) : OkJ (skipJ J) K ∧ stepJ (skipJ J) = none ∧ (skipJ J).evs.length + 2 * phi (skipJ J) ≤ J.evs.length + 2 * phi J ∧ (skipJ J).nm = J.nm ∧ (skipJ J).room = J.room ∧ (skipJ J).most = J.most ∧ (skipJ J).last = J.last ∧ (skipJ J).wait.length ≤ J.wait.length ∧ (J.wait ≠ [] → (skipJ J).wait.length < J.wait.length) := by
  unfold skipJ
  cases hw : J.wait with
  | nil => exact ⟨ok, hst, Nat.le_refl _, rfl, rfl, rfl, rfl, by simp [hw], fun h => absurd rfl h⟩
  | cons p q =>
    simp only
    obtain ⟨h1, h2, h3, h4⟩ := skip_lost ok hst hw
    obtain ⟨r1, r2, r3, r4, r5, r6, r7, r8⟩ := run_ok h1
    obtain ⟨s1, s2, s3, s4, s5, s6, s7, s8⟩ := step_ok h1 h4
    obtain ⟨t1, t2, t3, t4, t5, t6, t7, t8⟩ := run_ok s1
    have e : runJ (lostJ J p.1) = runJ (popJ (lostJ J p.1) p.2 q) := run_step h1 h4
    have hl : (runJ (lostJ J p.1)).wait.length ≤ q.length := by
      rw [e]
      refine Nat.le_trans t8 ?_
      simp [popJ, pieceJ_wait]
    exact ⟨r1, r2, by omega, r4.trans rfl, r5.trans rfl, r6.trans rfl, r7.trans rfl, by simp; omega, fun _ => by simp; omega⟩

theorem thinN_stop {n room : Nat} {J : Jn} (h : ¬ room < J.wait.length) : thinN n room J = J := by
  cases n with
  | zero => rfl
  | succ n => simp [thinN, h]
theorem thinN_same {K : Int} {room : Nat} : ∀ (n m : Nat) (J : Jn), OkJ J K → stepJ J = none → J.wait.length ≤ n → J.wait.length ≤ m → thinN n room J = thinN m room J := by
  intro n
  induction n with
  | zero =>
    intro m J ok hst hn hm
    rw [thinN_stop (by omega), thinN_stop (by omega)]
  | succ n ih =>
    intro m J ok hst hn hm
    by_cases h : room < J.wait.length
    · obtain ⟨k1, k2, k3, k4, k5, k6, k7, k8, k9⟩ := skip_ok ok hst
      have := k9 (fun e => by rw [e] at h; simp at h)
      cases m with
      | zero => omega
      | succ m =>
        simp only [thinN, if_pos h]
        exact ih m _ k1 k2 (by omega) (by omega)
    · rw [thinN_stop h, thinN_stop h]
theorem thin_step {K : Int} {room : Nat} {J : Jn} (ok : OkJ J K) (hst : stepJ J = none) (h : room < J.wait.length) : thinJ room J = thinJ room (skipJ J) := by
  obtain ⟨k1, k2, k3, k4, k5, k6, k7, k8, k9⟩ := skip_ok ok hst
  have hlt := k9 (fun e => by rw [e] at h; simp at h)
  have e1 : thinJ room J = thinN (J.wait.length + 1) room J := thinN_same _ _ _ ok hst (Nat.le_refl _) (by omega)
  rw [e1]
  simp only [thinN, if_pos h]
  exact thinN_same _ _ _ k1 k2 (by omega) (Nat.le_refl _)
theorem thin_stop {room : Nat} {J : Jn} (h : ¬ room < J.wait.length) : thinJ room J = J := thinN_stop h
theorem thin_ok {K : Int} {room : Nat} : ∀ (n : Nat) {J : Jn}, J.wait.length ≤ n → OkJ J K → stepJ J = none → OkJ (thinJ room J) K ∧ stepJ (thinJ room J) = none ∧ (thinJ room J).evs.length + 2 * phi (thinJ room J) ≤ J.evs.length + 2 * phi J ∧ (thinJ room J).nm = J.nm ∧ (thinJ room J).room = J.room ∧ (thinJ room J).most = J.most ∧ (thinJ room J).last = J.last ∧ (thinJ room J).wait.length ≤ J.wait.length ∧ (thinJ room J).wait.length ≤ room := by
  intro n
  induction n with
  | zero =>
    intro J hn ok hst
    rw [thin_stop (by omega)]
    exact ⟨ok, hst, Nat.le_refl _, rfl, rfl, rfl, rfl, Nat.le_refl _, by omega⟩
  | succ n ih =>
    intro J hn ok hst
    by_cases h : room < J.wait.length
    · obtain ⟨k1, k2, k3, k4, k5, k6, k7, k8, k9⟩ := skip_ok ok hst
      have := k9 (fun e => by rw [e] at h; simp at h)
      rw [thin_step ok hst h]
      obtain ⟨l1, l2, l3, l4, l5, l6, l7, l8, l9⟩ := ih (J := skipJ J) (by omega) k1 k2
      exact ⟨l1, l2, Nat.le_trans l3 k3, l4.trans k4, l5.trans k5, l6.trans k6, l7.trans k7, by omega, l9⟩
    · rw [thin_stop h]
      exact ⟨ok, hst, Nat.le_refl _, rfl, rfl, rfl, rfl, Nat.le_refl _, by omega⟩

set_option maxHeartbeats 2000000 in
set_option maxRecDepth 100000 in
theorem skip_any (W : World) (base g bm : Nat) (vl vd ve : Value) (wv : List (Int × Value)) (er : List (List Value)) (J : Jn) (K : Int) (h : JM W base g bm vl vd ve wv er J) (ok : OkJ J K) (hst : stepJ J = none) (hK : K ≤ 1000000000000) (hb : base ≤ W.heap.size) (hlen : er.length + 2 * phi J ≤ 80000) (hne : J.wait ≠ []) :
    Calls Tryd.prog 47 #[.pointer (some ⟨g, 0, none⟩)] W fun e W' => ∃ vd' ve' wv' er', (∃ v, e = .returned v) ∧
      JM W' base g bm vl vd' ve' wv' er' (skipJ J) ∧ Kept W W' (Mut g bm vl vd ve) ∧ (∀ k, k < W.heap.size → Mut g bm vl vd' ve' k → Mut g bm vl vd ve k) ∧ Below base W W' := by
  obtain ⟨p, q, hw⟩ : ∃ p q, J.wait = p :: q := by
    cases hw : J.wait with
    | nil => exact absurd hw hne
    | cons p q => exact ⟨p, q, rfl⟩
  have HJ := Aside0.mk h
  have HOK := Aside0.mk ok
  obtain ⟨s1, s2, s3, s4⟩ := skip_lost ok hst hw
  have hw3 : 3 * J.wait.length ≤ phi J := by unfold phi; omega
  have hah := (ahead_any W base g bm vl vd ve wv er J h (by omega)).mono (R' := fun e W' => e = .returned (.tuple #[.int .i64 p.1, .bool true]) ∧ Below W.heap.size W W') (by
    rintro e w' (⟨hn, -, -⟩ | ⟨p', q', hpq, he, hbb⟩)
    · rw [hw] at hn; cases hn
    · rw [hw] at hpq; cases hpq; exact ⟨he, hbb⟩)
  have hpk := ok.waitK p (by rw [hw]; simp)
  have hwr : IntKind.i64.wrap (p.1 - J.next) = p.1 - J.next := IntWalk.i64_in _ (by have := ok.next0; omega)
  have HS := Aside0.mk (And.intro s1 (And.intro s2 s3))
  have HW := Aside0.mk hw
  have hel : er.length = J.evs.length := h.hev.1
  have HEL := Aside0.mk (And.intro hel hlen)
  clear h ok hst hw s1 s2 s3 s4 hpk hel hlen hne hw3
  go_enter Tryd.func47, Tryd.ntmps47
  go_wp2_with (first
    | (go_at_call 56; refine hah.mono ?_; rintro e w' ⟨rfl, hba⟩; have HBA := Aside0.mk hba; clear hba)
    | (go_at_call 57; refine (lose_any _ base g bm vl vd ve wv er J p.1 (jm_below HJ.out HBA.out) HOK.out.nm0 (Nat.le_trans hb HBA.out.size) (by have := HEL.out; omega) hwr).mono ?_; rintro e w2 ⟨ve2, er2, ⟨v2, rfl⟩, hle2, hJ2, hk2, hm2, hb2⟩; have HX2 := Aside0.mk (And.intro hle2 (And.intro hJ2 (And.intro hk2 (And.intro hm2 hb2)))); clear hle2 hJ2 hk2 hm2 hb2)
    | (go_at_call 50; refine (run_any _ base g bm vl (.slice none 0 0) ve2 wv er2 (lostJ J p.1) K HX2.out.2.1 HS.out.1 hK (Nat.le_trans hb (Nat.le_trans HBA.out.size HX2.out.2.2.2.2.size)) (by have := HEL.out; have := HS.out.2.1; have := HS.out.2.2; have := HX2.out.1; omega)).mono ?_; rintro e w3 ⟨vd3, ve3, wv3, er3, ⟨v3, rfl⟩, hJ3, hk3, hm3, hb3⟩; have HX3 := Aside0.mk (And.intro hJ3 (And.intro hk3 (And.intro hm3 hb3))); clear hJ3 hk3 hm3 hb3))
  go_end0
  obtain ⟨hle2, hJ2, hk2, hm2, hb2⟩ := HX2.out
  obtain ⟨hJ3, hk3, hm3, hb3⟩ := HX3.out
  have hsk : skipJ J = runJ (lostJ J p.1) := by unfold skipJ; rw [HW.out]
  have hkA := kept_trans (kept_of_below HBA.out (Mut g bm vl vd ve)) hk2 (fun _ _ h => h)
  have hmA : ∀ k, k < W.heap.size → Mut g bm vl (.slice none 0 0) ve2 k → Mut g bm vl vd ve k := fun k hk hm => hm2 k (Nat.lt_of_lt_of_le hk HBA.out.size) hm
  exact ⟨vd3, ve3, wv3, er3, ⟨_, rfl⟩, hsk ▸ hJ3, kept_trans hkA hk3 hmA, fun k hk hm => hmA k hk (hm3 k (Nat.lt_of_lt_of_le hk hkA.1) hm), ((HBA.out.mono hb).trans hb2).trans hb3⟩

set_option maxHeartbeats 2000000 in
set_option maxRecDepth 100000 in
theorem flush_any (W : World) (base g bm : Nat) (vl vd ve : Value) (wv : List (Int × Value)) (er : List (List Value)) (J : Jn) (K : Int) (h : JM W base g bm vl vd ve wv er J) (ok : OkJ J K) (hst : stepJ J = none) (hK : K ≤ 1000000000000) (hb : base ≤ W.heap.size) (hlen : er.length + 2 * phi J ≤ 80000) :
    Calls Tryd.prog 33 #[.pointer (some ⟨g, 0, none⟩)] W fun e W' => ∃ vd' ve' wv' er', e = .returned ve' ∧
      JM W' base g bm vl vd' (.slice none 0 0) wv' [] { thinJ 0 J with evs := [] } ∧ (rawK 4).R 84 W' base (fun _ => True) ve' er' ∧ All2 (EvOK W' (Mut g bm vl vd' (.slice none 0 0))) (thinJ 0 J).evs er' ∧
      Kept W W' (Mut g bm vl vd ve) ∧ (∀ k, k < W.heap.size → Mut g bm vl vd' (.slice none 0 0) k → Mut g bm vl vd ve k) ∧ Below base W W' := by
  have HJ := Aside0.mk h
  have HOK := Aside0.mk ok
  have HST := Aside0.mk hst
  have HLEN := Aside0.mk hlen
  clear h ok hst hlen
  go_enter Tryd.func33, Tryd.ntmps33
  go_wp2_with (fail)
  go_loopg [3] (J.wait.length) (fun k v3 wr => Aside0 (∃ vd1 ve1 wv1 er1 J1, k = J1.wait.length ∧ JM wr base g bm vl vd1 ve1 wv1 er1 J1 ∧ OkJ J1 K ∧ stepJ J1 = none ∧ thinJ 0 J1 = thinJ 0 J ∧ er1.length + 2 * phi J1 ≤ er.length + 2 * phi J ∧ Kept W wr (Mut g bm vl vd ve) ∧ (∀ k, k < W.heap.size → Mut g bm vl vd1 ve1 k → Mut g bm vl vd ve k) ∧ Below base W wr))
  case atStart => exact ⟨vd, ve, wv, er, J, rfl, HJ.out, HOK.out, HST.out, rfl, Nat.le_refl _, Kept.refl _ _, fun _ _ h => h, Below.refl _ _⟩
  case round =>
    obtain ⟨vd1, ve1, wv1, er1, J1, rfl, hJ1, hok1, hst1, hthin, hlen1, hk1, hm1, hb1⟩ := hrel.out
    clear hrel
    have hg := hJ1.hg
    have c4 := blk_cell hg 4
    simp at c4
    have hmap := hJ1.hmap
    have hsz : Maps.size (mapD wv1) = J1.wait.length := by simp [Maps.size, hJ1.hwv.1]
    have hbs : base ≤ wr.heap.size := Nat.le_trans hb hb1.size
    by_cases hz : J1.wait.length = 0
    · have hw : ¬ 0 < J1.wait.length := by omega
      have ht : J1 = thinJ 0 J := (thin_stop hw).symm.trans hthin
      have htk := take_any wr base g bm vl vd1 ve1 wv1 er1 J1 hJ1
      have e0 : decide ((0 : Int) < (J1.wait.length : Int)) = false := decide_eq_false (by omega)
      have HX := Aside0.mk (And.intro ht (And.intro hk1 (And.intro hm1 hb1)))
      clear hJ1 hok1 hst1 hthin hlen1 hk1 hm1 hb1 hg hz ht
      go_wp2_with (first
        | (at_len; refine wpList_len_own _ rfl _ 99 rfl 3 29 Tryd.underlying99 elemR bm _ _ rfl hmap ?_; rw [hsz])
        | (go_at_call 48; refine htk.mono ?_; rintro e w2 ⟨rfl, hJ2, hev2, hevs2, hk2, hm2, hb2⟩; have HY := Aside0.mk (And.intro hJ2 (And.intro hev2 (And.intro hevs2 (And.intro hk2 (And.intro hm2 hb2))))); clear hJ2 hev2 hevs2 hk2 hm2 hb2))
      refine bodyPost_ret (results_tmp rfl _ _ _) rfl ?_
      obtain ⟨ht, hk1, hm1, hb1⟩ := HX.out
      obtain ⟨hJ2, hev2, hevs2, hk2, hm2, hb2⟩ := HY.out
      rw [← ht]
      exact ⟨vd1, ve1, wv1, er1, rfl, hJ2, hev2, hevs2, kept_trans hk1 hk2 hm1, fun k hk hm => hm1 k hk (hm2 k (Nat.lt_of_lt_of_le hk hk1.1) hm), hb1.trans hb2⟩
    · have hw : 0 < J1.wait.length := by omega
      have hne : J1.wait ≠ [] := fun e => by rw [e] at hw; simp at hw
      obtain ⟨k1, k2, k3, k4, k5, k6, k7, k8, k9⟩ := skip_ok hok1 hst1
      have hsk := skip_any wr base g bm vl vd1 ve1 wv1 er1 J1 K hJ1 hok1 hst1 hK hbs (by have := HLEN.out; omega) hne
      have e0 : decide ((0 : Int) < (J1.wait.length : Int)) = true := decide_eq_true (by omega)
      have he1 := hJ1.hev.1
      have HX := Aside0.mk (And.intro k1 (And.intro k2 (And.intro k3 (And.intro (k9 hne) (And.intro ((thin_step hok1 hst1 hw).symm.trans hthin) (And.intro hk1 (And.intro hm1 (And.intro hb1 (And.intro hlen1 he1)))))))))
      clear hJ1 hok1 hst1 hthin hlen1 hk1 hm1 hb1 hg hz k1 k2 k3 k4 k5 k6 k7 k8 k9 hne he1
      go_wp2_with (first
        | (at_len; refine wpList_len_own _ rfl _ 99 rfl 3 29 Tryd.underlying99 elemR bm _ _ rfl hmap ?_; rw [hsz])
        | (go_at_call 47; refine hsk.mono ?_; rintro e w2 ⟨vd2, ve2, wv2, er2, ⟨v2, rfl⟩, hJ2, hk2, hm2, hb2⟩; have HY := Aside0.mk (And.intro hJ2 (And.intro hk2 (And.intro hm2 hb2))); clear hJ2 hk2 hm2 hb2))
      obtain ⟨x1, x2, x3, x4, x5, x6, x7, x8, x9, x10⟩ := HX.out
      obtain ⟨hJ2, hk2, hm2, hb2⟩ := HY.out
      go_roundg ((skipJ J1).wait.length)
      case measure => exact x4
      case rel =>
        refine ⟨vd2, ve2, wv2, er2, skipJ J1, rfl, hJ2, x1, x2, x5, ?_, kept_trans x6 hk2 x7, fun k hk hm => x7 k hk (hm2 k (Nat.lt_of_lt_of_le hk x6.1) hm), x8.trans hb2⟩
        have := hJ2.hev.1
        omega

end Go.Proofs.YtgopklnfdlnojaaDoor.Jg
namespace Go.Proofs.YtgopklnfdlnojaaDoor.Jh
open Go.RowKit Go.Proofs.YtgopklnfdlnojaaDoor.Ga Go.Proofs.YtgopklnfdlnojaaDoor.My Go.Proofs.YtgopklnfdlnojaaDoor.Gb Go.Proofs.YtgopklnfdlnojaaDoor.Gp Go.Proofs.YtgopklnfdlnojaaDoor.Ja Go.Proofs.YtgopklnfdlnojaaDoor.Jb Go.Proofs.YtgopklnfdlnojaaDoor.Jc Go.Proofs.YtgopklnfdlnojaaDoor.Jd Go.Proofs.YtgopklnfdlnojaaDoor.Je Go.Proofs.YtgopklnfdlnojaaDoor.Jf Go.Proofs.YtgopklnfdlnojaaDoor.Jg Go.Proofs.YtgopklnfdlnojaaDoorW.PrintWords Go.Proofs.YtgopklnfdlnojaaDoorW.PrintLast Go.Proofs.YtgopklnfdlnojaaDoorW.PrintMore
set_option linter.unusedVariables false
set_option linter.unusedSimpArgs false

/-- A new entry among entries that rise. -/
def insK {α : Type} (x : Int × α) : List (Int × α) → List (Int × α)
  | [] => [x]
  | y :: r => if x.1 < y.1 then x :: y :: r else y :: insK x r
theorem insK_length {α : Type} (x : Int × α) : ∀ l, (insK x l).length = l.length + 1
  | [] => rfl
  | y :: r => by unfold insK; split <;> simp [insK_length x r]
theorem insK_mem {α : Type} (x y : Int × α) : ∀ l, y ∈ insK x l ↔ y = x ∨ y ∈ l
  | [] => by simp [insK]
  | z :: r => by
    unfold insK
    split
    · simp
    · simp only [List.mem_cons, insK_mem x y r]
      constructor
      · rintro (h | h | h)
        · exact .inr (.inl h)
        · exact .inl h
        · exact .inr (.inr h)
      · rintro (h | h | h)
        · exact .inr (.inl h)
        · exact .inl h
        · exact .inr (.inr h)
theorem insK_sorted {α : Type} (x : Int × α) : ∀ l : List (Int × α), l.Pairwise (fun p q => p.1 < q.1) → (∀ y ∈ l, y.1 ≠ x.1) → (insK x l).Pairwise (fun p q => p.1 < q.1)
  | [], _, _ => by simp [insK]
  | z :: r, h, hn => by
    obtain ⟨h1, h2⟩ := List.pairwise_cons.1 h
    unfold insK
    split
    · rename_i hlt
      refine List.pairwise_cons.2 ⟨fun y hy => ?_, h⟩
      rcases List.mem_cons.1 hy with e | e
      · rw [e]; exact hlt
      · have := h1 y e; omega
    · rename_i hlt
      have hz := hn z (by simp)
      refine List.pairwise_cons.2 ⟨fun y hy => ?_, insK_sorted x r h2 (fun y hy => hn y (by simp [hy]))⟩
      rcases (insK_mem x y r).1 hy with e | e
      · rw [e]; omega
      · exact h1 y e
theorem insK_all2 {α β : Type} {R : Int × α → Int × β → Prop} (hk : ∀ a b, R a b → b.1 = a.1) {x : Int × α} {y : Int × β} (hxy : R x y) : ∀ (xs : List (Int × α)) (ys : List (Int × β)), All2 R xs ys → All2 R (insK x xs) (insK y ys)
  | [], ys, h => by
    have : ys = [] := List.length_eq_zero_iff.1 h.1
    subst this
    exact ⟨rfl, fun j a b ha hb => by cases j <;> simp [insK] at ha hb; subst ha; subst hb; exact hxy⟩
  | z :: r, ys, h => by
    obtain ⟨u, us, rfl, hzu, hr⟩ := all2_cons h
    have e1 := hk _ _ hxy
    have e2 := hk _ _ hzu
    have cons : ∀ {a : Int × α} {b : Int × β} {l1 : List (Int × α)} {l2 : List (Int × β)}, R a b → All2 R l1 l2 → All2 R (a :: l1) (b :: l2) := by
      intro a b l1 l2 hab hs
      refine ⟨by simp [hs.1], fun j p q hp hq => ?_⟩
      cases j with
      | zero => simp at hp hq; subst hp; subst hq; exact hab
      | succ j => exact hs.2 j p q (by simpa using hp) (by simpa using hq)
    unfold insK
    by_cases hlt : x.1 < z.1
    · rw [if_pos hlt, if_pos (by rw [e1, e2]; exact hlt)]
      exact cons hxy (cons hzu hr)
    · rw [if_neg hlt, if_neg (by rw [e1, e2]; exact hlt)]
      exact cons hzu (insK_all2 hk hxy r us hr)
/-- What the map reads behind a store. -/
theorem put_ins (n : Int) (v : Value) (wv : List (Int × Value)) (h : ∀ x ∈ wv, x.1 ≠ n) : (mapD wv).put (.int .i64 n) (.held v) = mapD (insK (n, v) wv) := by
  have hf : (wv.map fun x => ((.int .i64 x.1 : Lit), (DataW.held x.2 : DataW Value))).filter (fun p => !p.1.sameKey (.int .i64 n)) = wv.map fun x => ((.int .i64 x.1 : Lit), (DataW.held x.2 : DataW Value)) := by
    refine List.filter_eq_self.2 ?_
    intro p hp
    obtain ⟨x, hx, rfl⟩ := List.mem_map.1 hp
    simpa [Lit.sameKey] using h x hx
  simp only [DataW.put, hf]
  have : ∀ l : List (Int × Value), DataW.insert ((.int .i64 n : Lit), (DataW.held v : DataW Value)) (l.map fun x => ((.int .i64 x.1 : Lit), (DataW.held x.2 : DataW Value))) = (insK (n, v) l).map fun x => ((.int .i64 x.1 : Lit), (DataW.held x.2 : DataW Value)) := by
    intro l
    induction l with
    | nil => rfl
    | cons z r ih =>
      simp only [List.map_cons, DataW.insert, insK, Lit.before]
      by_cases hlt : n < z.1
      · simp [hlt]
      · simp [hlt, ih]
  rw [this]

/-- Does a piece wait for the place? -/
def hasJ (J : Jn) (place : Int) : Bool := J.wait.any (fun p => p.1 == place)
theorem hasJ_false {J : Jn} {place : Int} (h : hasJ J place = false) : ∀ p ∈ J.wait, p.1 ≠ place := by
  intro p hp
  have := List.any_eq_false.1 h p hp
  simpa using this

/-- The place of a number on a link. -/
def placeJ (J : Jn) (link num : Int) : Int := J.last.getD link.toNat 0 + 1 + Int.tmod (Int.tmod (num - (J.last.getD link.toNat 0 + 1)) J.nm + J.nm) J.nm
theorem place_eq (p0 num nm : Int) (h : 0 < nm) : Int.tmod (Int.tmod (num - p0) nm + nm) nm = (num - p0) % nm := by
  have h1 := Int.tmod_lt_of_pos (num - p0) h
  have h2 : -nm < Int.tmod (num - p0) nm := Int.lt_tmod_of_pos _ h
  rw [Int.tmod_eq_emod_of_nonneg (by omega), Int.add_emod_right, Int.tmod_def, Int.sub_mul_emod_self_left]

structure Jf where
  J : Jn
  err : Int
def laidJ (J : Jn) (link : Int) (p : S29) : Jn :=
  let place := placeJ J link p.f2
  let J1 : Jn := { J with last := J.last.set link.toNat place }
  if !hasJ J place && decide (J.next ≤ place) then { J1 with wait := insK (place, p) J.wait } else J1
/-- A joiner behind a piece, its events yet to be taken; and the error. -/
def feedJ (J : Jn) (link : Int) (p : S29) : Jn × Int :=
  if link < 0 ∨ (J.last.length : Int) ≤ link then (J, 1)
  else if p.f2 < 0 ∨ J.nm ≤ p.f2 then (J, 5)
  else (thinJ J.room.toNat (runJ (laidJ J link p)), 0)

theorem ok_mono {J : Jn} {K K' : Int} (h : OkJ J K) (hK : K ≤ K') : OkJ J K' :=
  ⟨h.nm0, h.last0, fun x hx => ⟨(h.lastK x hx).1, by have := (h.lastK x hx).2; omega⟩, h.next0, by have := h.nextK; omega, fun p hp => ⟨(h.waitK p hp).1, by have := (h.waitK p hp).2.1; omega, (h.waitK p hp).2.2⟩, h.sort, h.data, h.most⟩
theorem place_bound {J : Jn} {K link : Int} {num : Int} (ok : OkJ J K) (h0 : 0 ≤ link) (h1 : link < J.last.length) : 0 ≤ placeJ J link num ∧ placeJ J link num ≤ K + J.nm ∧ J.last.getD link.toNat 0 < placeJ J link num ∧ placeJ J link num % J.nm = num % J.nm ∧ -1 ≤ J.last.getD link.toNat 0 ∧ J.last.getD link.toNat 0 ≤ K := by
  have hnm := ok.nm0
  have hm : J.last.getD link.toNat 0 ∈ J.last := by
    rw [List.getD_eq_getElem?_getD, List.getElem?_eq_getElem (by omega)]
    simp
  obtain ⟨b1, b2⟩ := ok.lastK _ hm
  have e : placeJ J link num = J.last.getD link.toNat 0 + 1 + (num - (J.last.getD link.toNat 0 + 1)) % J.nm := by unfold placeJ; rw [place_eq _ _ _ hnm]
  have b3 := Int.emod_nonneg (num - (J.last.getD link.toNat 0 + 1)) (by omega : J.nm ≠ 0)
  have b4 := Int.emod_lt_of_pos (num - (J.last.getD link.toNat 0 + 1)) hnm
  refine ⟨by omega, by omega, by omega, ?_, b1, b2⟩
  rw [e, Int.add_emod, Int.emod_emod_of_dvd _ (Int.dvd_refl _), ← Int.add_emod]
  congr 1
  omega
theorem laid_ok {J : Jn} {K link : Int} {p : S29} (ok : OkJ J K) (h0 : 0 ≤ link) (h1 : link < J.last.length) (hp : p.f3.length ≤ 1000) : OkJ (laidJ J link p) (K + J.nm) ∧ (laidJ J link p).wait.length ≤ J.wait.length + 1 ∧ (laidJ J link p).evs = J.evs := by
  obtain ⟨b0, b1, b2, b3, b4, b5⟩ := place_bound (num := p.f2) ok h0 h1
  have hnm := ok.nm0
  have ok' := ok_mono ok (K' := K + J.nm) (by omega)
  have hl0 : J.last.set link.toNat (placeJ J link p.f2) ≠ [] := fun e => ok.last0 (by simpa using congrArg List.length e)
  have hlK : ∀ x ∈ J.last.set link.toNat (placeJ J link p.f2), -1 ≤ x ∧ x ≤ K + J.nm := by
    intro x hx
    rcases List.mem_or_eq_of_mem_set hx with e | e
    · exact ok'.lastK x e
    · rw [e]; omega
  unfold laidJ
  simp only
  split
  · rename_i hc
    simp only [Bool.and_eq_true, Bool.not_eq_true', decide_eq_true_eq] at hc
    refine ⟨⟨ok.nm0, hl0, hlK, ok'.next0, ok'.nextK, ?_, insK_sorted _ _ ok.sort (hasJ_false hc.1), ok.data, ok.most⟩, by simp [insK_length], rfl⟩
    intro x hx
    rcases (insK_mem _ x _).1 hx with e | e
    · subst e; exact ⟨hc.2, b1, hp⟩
    · exact ok'.waitK x e
  · exact ⟨⟨ok.nm0, hl0, hlK, ok'.next0, ok'.nextK, ok'.waitK, ok.sort, ok.data, ok.most⟩, by simp, rfl⟩

end Go.Proofs.YtgopklnfdlnojaaDoor.Jh
namespace Go.Proofs.YtgopklnfdlnojaaDoor.Ji
open Go.RowKit Go.Proofs.YtgopklnfdlnojaaDoor.Ga Go.Proofs.YtgopklnfdlnojaaDoor.My Go.Proofs.YtgopklnfdlnojaaDoor.Gb Go.Proofs.YtgopklnfdlnojaaDoor.Gp Go.Proofs.YtgopklnfdlnojaaDoor.Ja Go.Proofs.YtgopklnfdlnojaaDoor.Jb Go.Proofs.YtgopklnfdlnojaaDoor.Jc Go.Proofs.YtgopklnfdlnojaaDoor.Jd Go.Proofs.YtgopklnfdlnojaaDoor.Je Go.Proofs.YtgopklnfdlnojaaDoor.Jf Go.Proofs.YtgopklnfdlnojaaDoor.Jg Go.Proofs.YtgopklnfdlnojaaDoor.Jh Go.Proofs.YtgopklnfdlnojaaDoorW.PrintWords Go.Proofs.YtgopklnfdlnojaaDoorW.PrintLast Go.Proofs.YtgopklnfdlnojaaDoorW.PrintMore
set_option linter.unusedVariables false
set_option linter.unusedSimpArgs false

theorem below_drewN {B : Nat} {a w : World} (h : Below B a w) (q : Nat) : Below B a (w.drewN q) := ⟨h.os, h.tape, h.output, h.size, h.block⟩

section
variable {W : World} {base g bm : Nat} {vl vd ve : Value} {wv : List (Int × Value)} {er : List (List Value)} {J : Jn}
/-- The row of last places. -/
theorem last_row (h : JM W base g bm vl vd ve wv er J) (hne : J.last ≠ []) : ∃ gl cap, vl = .slice (some ⟨gl, 0, none⟩) J.last.length cap := by
  obtain ⟨inner, hown⟩ := Kd.R_own h.hlast
  have hpos : 0 < J.last.length := List.length_pos_iff.2 hne
  rcases hown.2 with ⟨_, hz⟩ | ⟨gl, cap, cur, rfl, _⟩
  · omega
  · exact ⟨gl, cap, rfl⟩
theorem last_at {gl cap : Nat} (h : JM W base g bm (.slice (some ⟨gl, 0, none⟩) J.last.length cap) vd ve wv er J) (k : Nat) (hk : k < J.last.length) :
    W.cell? ⟨gl, k, none⟩ = some (.int .i64 (J.last.getD k 0)) ∧ W.frozen? ⟨gl, k, none⟩ = false := by
  have := Kd.R_cell (0 : Int) h.hlast (k : Int) (by omega) (by omega)
  simpa [rdOf] using this
theorem last_base {gl cap : Nat} (h : JM W base g bm (.slice (some ⟨gl, 0, none⟩) J.last.length cap) vd ve wv er J) (hne : J.last ≠ []) : base ≤ gl := by
  have hpos : 0 < J.last.length := List.length_pos_iff.2 hne
  obtain ⟨inner, hown⟩ := Kd.R_own h.hlast
  rcases hown.2 with ⟨e, hz⟩ | ⟨gl', cap', cur, e, hb, _⟩
  · omega
  · cases e; exact hb
/-- Nothing but the last places' row has turned. -/
theorem JM_lasts {W' : World} {gl cap : Nat} {ls : List Int} (h : JM W base g bm (.slice (some ⟨gl, 0, none⟩) J.last.length cap) vd ve wv er J) (hk1 : Kept W W' (fun j => j = gl)) (hR : (Kd.int .i64).R 3 W' base (fun _ => True) (.slice (some ⟨gl, 0, none⟩) J.last.length cap) ls) :
    JM W' base g bm (.slice (some ⟨gl, 0, none⟩) J.last.length cap) vd ve wv er { J with last := ls } ∧ Kept W W' (Mut g bm (.slice (some ⟨gl, 0, none⟩) J.last.length cap) vd ve) := by
  obtain ⟨al, ad, ae, hgm⟩ := h.apart
  have hal := al gl rfl
  have hkM : Kept W W' (Mut g bm (.slice (some ⟨gl, 0, none⟩) J.last.length cap) vd ve) := ⟨hk1.1, fun j hj hs => hk1.2 j hj (fun e => hs (.inr (.inr (.inl (by rw [e]; rfl)))))⟩
  have hmut : ∀ j, j < W.heap.size → Mut g bm (.slice (some ⟨gl, 0, none⟩) J.last.length cap) vd ve j → Mut g bm (.slice (some ⟨gl, 0, none⟩) J.last.length cap) vd ve j := fun _ _ h => h
  obtain ⟨es, clock, hmb⟩ := map_blk h.hmap
  exact ⟨⟨(hk1.2 g (Array.getElem?_eq_some_iff.1 h.hg).1 (fun e => hal.1 e.symm)).trans h.hg, h.hgb, h.hbm, hR, R_stay rfl h.hdata hk1 (fun j hj hs => (ad j hj).2.2.1 (by rw [hs]; rfl)), R_stay rfl h.hevs hk1 (fun j hj hs => (ae j hj).2.2.1 (by rw [hs]; rfl)), h.hev.imp fun x y ⟨A, c, h1, h2, h3⟩ => ⟨A, c, h1, h2, h3.kept hkM hmut⟩, map_stay h.hmap (hk1.2 bm (Array.getElem?_eq_some_iff.1 hmb).1 (fun e => hal.2.1 e.symm)), h.hwv.imp fun x y ⟨h1, A, c, h2, h3, h4⟩ => ⟨h1, A, c, h2, h3, h4.kept hkM hmut⟩, h.hsort⟩, hkM⟩
/-- A last place is written. -/
theorem JM_last {gl cap : Nat} (h : JM W base g bm (.slice (some ⟨gl, 0, none⟩) J.last.length cap) vd ve wv er J) (k : Nat) (hk : k < J.last.length) (x : Int) :
    JM (W.setCell ⟨gl, k, none⟩ (.int .i64 x)) base g bm (.slice (some ⟨gl, 0, none⟩) J.last.length cap) vd ve wv er { J with last := J.last.set k x } ∧ Kept W (W.setCell ⟨gl, k, none⟩ (.int .i64 x)) (Mut g bm (.slice (some ⟨gl, 0, none⟩) J.last.length cap) vd ve) ∧ base ≤ gl := by
  have hk1 : Kept W (W.setCell ⟨gl, k, none⟩ (.int .i64 x)) (fun j => j = gl) := ⟨by simp [World.setCell], fun j _ hs => far_cell W gl k j _ hs⟩
  have hR := Kd.R_putn h.hlast (k : Int) x
  simp only [Int.toNat_natCast] at hR
  obtain ⟨h1, h2⟩ := JM_lasts h hk1 hR
  exact ⟨h1, h2, last_base h (fun e => by rw [e] at hk; simp at hk)⟩
end

/-- Does a piece wait for the place? -/
theorem has_wv {W : World} {base g bm : Nat} {vl vd ve : Value} {wv : List (Int × Value)} {er : List (List Value)} {J : Jn} (h : JM W base g bm vl vd ve wv er J) (place : Int) : Maps.has (mapD wv) (.int .i64 place) = hasJ J place := by
  have e1 : Maps.has (mapD wv) (.int .i64 place) = (wv.map (·.1)).any (fun x => x == place) := by
    simp only [Maps.has, List.any_map]
    refine congrArg (fun f => wv.any f) (funext fun x => ?_)
    simp only [Function.comp_apply, Lit.sameKey]
    by_cases e : x.1 = place <;> simp [e]
  rw [e1, places_wv h]
  simp only [places, hasJ, List.any_map]
  rfl
theorem wv_pc {W : World} {base g bm : Nat} {vl vd ve : Value} {wv : List (Int × Value)} {er : List (List Value)} {J : Jn} (h : JM W base g bm vl vd ve wv er J) (x : Int × Value) (hx : x ∈ wv) : ∃ f0 f1 f2 A l c, x.2 = pc f0 f1 f2 A l c := by
  obtain ⟨j, hj, e⟩ := List.getElem_of_mem hx
  have hl := h.hwv.1
  obtain ⟨-, A, c, h2, -⟩ := h.hwv.2 j (J.wait[j]'(by omega)) x (List.getElem?_eq_getElem _) (by rw [List.getElem?_eq_getElem hj, e])
  exact ⟨_, _, _, A, _, c, h2⟩
theorem look_at {W : World} {base g bm : Nat} {vl vd ve : Value} {wv : List (Int × Value)} {er : List (List Value)} {J : Jn} (h : JM W base g bm vl vd ve wv er J) (place : Int) (h0 : 0 ≤ place) (h1 : place ≤ 1000000000001) :
    ∃ f0 f1 f2 A l c, ∀ W' : World, W'.heap[bm]? = W.heap[bm]? → (Instr.lookup 99 (.map (some bm)) (.int .i64 place) true).run Tryd.prog W' = .ok (.tuple #[pc f0 f1 f2 A l c, .bool (hasJ J place)]) W' := by
  obtain ⟨es, clock, v, hb, hv, hrun⟩ := Jf.look h.hmap place h0 h1
  rw [has_wv h] at hrun
  have hp : ∃ f0 f1 f2 A l c, v = pc f0 f1 f2 A l c := by
    simp only [DataW.atKey] at hv
    split at hv
    · rename_i p hf
      obtain ⟨x, hx, rfl⟩ := List.mem_map.1 (List.mem_of_find?_eq_some hf)
      have e : v = x.2 := by simpa using hv
      rw [e]
      exact wv_pc h x hx
    · have e : v = pc false false 0 none 0 0 := by simpa using hv
      exact ⟨_, _, _, _, _, _, e⟩
  obtain ⟨f0, f1, f2, A, l, c, rfl⟩ := hp
  exact ⟨f0, f1, f2, A, l, c, fun W' hW' => hrun W' (hW'.trans hb)⟩

/-- A piece is laid beside those that wait. -/
theorem JM_put {W W' : World} {base g bm : Nat} {vl vd ve : Value} {wv : List (Int × Value)} {er : List (List Value)} {J : Jn} {place : Int} {p : S29} {v : Value} (h : JM W base g bm vl vd ve wv er J) (hgr : W.grownBy W' (some bm)) (hno : hasJ J place = false)
    (hm : W'.ownsMap Tryd.prog 3 elemR bm (wv.length + 1) ((mapD wv).put (.int .i64 place) (.held v))) (hv : WtOK W (Mut g bm vl vd ve) (place, p) (place, v)) :
    JM W' base g bm vl vd ve (insK (place, v) wv) er { J with wait := insK (place, p) J.wait } ∧ Kept W W' (Mut g bm vl vd ve) := by
  have hne : ∀ x ∈ wv, x.1 ≠ place := by
    intro x hx e
    have h1 : x.1 ∈ wv.map (·.1) := List.mem_map_of_mem hx
    rw [places_wv h] at h1
    obtain ⟨y, hy, hyx⟩ := List.mem_map.1 h1
    exact hasJ_false hno y hy (hyx.trans e)
  rw [put_ins place v wv hne] at hm
  refine JM_map h ⟨hgr.size, fun k hk hn => hgr.block k hk (fun e => hn (by cases e; rfl))⟩ (by rw [insK_length]; exact hm) (insK_all2 (fun a b hab => hab.1) hv _ _ h.hwv) (insK_sorted _ _ h.hsort (hasJ_false hno))

set_option maxHeartbeats 1000000 in
set_option maxRecDepth 100000 in
theorem feed_link (W : World) (base g bm : Nat) (vl vd ve : Value) (wv : List (Int × Value)) (er : List (List Value)) (J : Jn) (link : Int) (p : S29) (A : Option Addr) (c : Nat) (h : JM W base g bm vl vd ve wv er J) (hl : link < 0 ∨ (J.last.length : Int) ≤ link) :
    Calls Tryd.prog 35 #[.pointer (some ⟨g, 0, none⟩), .int .i64 link, pc p.f0 p.f1 p.f2 A p.f3.length c] W fun e W' => e = .returned (.tuple #[.slice none 0 0, .int .i64 1]) ∧ Below W.heap.size W W' := by
  obtain ⟨Al, cl, rfl⟩ := Kd.R_slice h.hlast
  have HJ := Aside0.mk h
  have hg := h.hg
  have c3 := blk_cell (blk_keep hg (below_alloc (Below.refl _ W) (.cells #[.bool p.f0, .bool p.f1, .int .i64 p.f2, .slice A p.f3.length c] 29))) 3
  simp at c3
  have HB := Aside0.mk (below_alloc (Below.refl _ W) (.cells #[.bool p.f0, .bool p.f1, .int .i64 p.f2, .slice A p.f3.length c] 29))
  clear h hg
  by_cases h0 : link < 0
  · have hd : decide (link < 0) = true := decide_eq_true h0
    clear h0 hl
    go_enter Tryd.func35, Tryd.ntmps35
    go_wp2
    go_ret2
    exact ⟨rfl, HB.out⟩
  · have hd : decide (link < 0) = false := decide_eq_false h0
    have hd2 : decide ((J.last.length : Int) ≤ link) = true := decide_eq_true (by omega)
    clear h0 hl
    go_enter Tryd.func35, Tryd.ntmps35
    go_wp2
    go_ret2
    exact ⟨rfl, HB.out⟩

set_option maxHeartbeats 1000000 in
set_option maxRecDepth 100000 in
theorem feed_num (W : World) (base g bm : Nat) (vl vd ve : Value) (wv : List (Int × Value)) (er : List (List Value)) (J : Jn) (k : Nat) (p : S29) (A : Option Addr) (c : Nat) (h : JM W base g bm vl vd ve wv er J) (hk : k < J.last.length) (hn : p.f2 < 0 ∨ J.nm ≤ p.f2) :
    Calls Tryd.prog 35 #[.pointer (some ⟨g, 0, none⟩), .int .i64 (k : Int), pc p.f0 p.f1 p.f2 A p.f3.length c] W fun e W' => e = .returned (.tuple #[.slice none 0 0, .int .i64 5]) ∧ Below W.heap.size W W' := by
  obtain ⟨Al, cl, rfl⟩ := Kd.R_slice h.hlast
  have hg := h.hg
  have hb1 := below_alloc (Below.refl W.heap.size W) (.cells #[.bool p.f0, .bool p.f1, .int .i64 p.f2, .slice A p.f3.length c] 29)
  have hn1 := new1 W (.cells #[.bool p.f0, .bool p.f1, .int .i64 p.f2, .slice A p.f3.length c] 29)
  have hg1 := blk_keep hg hb1
  have c3 := blk_cell hg1 3
  have c0 := blk_cell hg1 0
  simp at c3 c0
  obtain ⟨p0, p1, p2, p3⟩ := cells4 hn1
  have HB := Aside0.mk hb1
  have hdk0 : decide ((k : Int) < 0) = false := decide_eq_false (by omega)
  have hdk1 : decide ((J.last.length : Int) ≤ (k : Int)) = false := decide_eq_false (by omega)
  have hdk2 : decide (J.last.length ≤ k) = false := decide_eq_false (by omega)
  obtain ⟨g5, hg5⟩ : ∃ q, W.heap.size = q := ⟨_, rfl⟩
  clear h hg hb1 hn1 hg1
  by_cases h0 : p.f2 < 0
  · have hd : decide (p.f2 < 0) = true := decide_eq_true h0
    clear h0 hn
    go_enter Tryd.func35, Tryd.ntmps35
    go_upto_block 0 with (fail)
    go_wp2_with (fail)
    go_quiet (fail)
    go_wp2
    go_ret2
    exact ⟨rfl, below_drewN HB.out _⟩
  · have hd : decide (p.f2 < 0) = false := decide_eq_false h0
    have hd2 : decide (J.nm ≤ p.f2) = true := decide_eq_true (by omega)
    clear h0 hn
    go_enter Tryd.func35, Tryd.ntmps35
    go_upto_block 0 with (fail)
    go_wp2_with (fail)
    go_quiet (fail)
    go_wp2
    go_ret2
    exact ⟨rfl, below_drewN HB.out _⟩

end Go.Proofs.YtgopklnfdlnojaaDoor.Ji
namespace Go.Proofs.YtgopklnfdlnojaaDoor.Ix
open Go.RowKit Go.Proofs.YtgopklnfdlnojaaDoor.Ga Go.Proofs.YtgopklnfdlnojaaDoor.My Go.Proofs.YtgopklnfdlnojaaDoor.Gb Go.Proofs.YtgopklnfdlnojaaDoor.Gp Go.Proofs.YtgopklnfdlnojaaDoor.Ja Go.Proofs.YtgopklnfdlnojaaDoor.Jb Go.Proofs.YtgopklnfdlnojaaDoor.Jc Go.Proofs.YtgopklnfdlnojaaDoor.Jd Go.Proofs.YtgopklnfdlnojaaDoor.Je Go.Proofs.YtgopklnfdlnojaaDoor.Jf Go.Proofs.YtgopklnfdlnojaaDoor.Jg Go.Proofs.YtgopklnfdlnojaaDoor.Jh Go.Proofs.YtgopklnfdlnojaaDoor.Ji Go.Proofs.YtgopklnfdlnojaaDoorW.PrintWords Go.Proofs.YtgopklnfdlnojaaDoorW.PrintLast Go.Proofs.YtgopklnfdlnojaaDoorW.PrintMore
set_option linter.unusedVariables false
set_option linter.unusedSimpArgs false

/-- len(map) as one step of a region that draws. -/
theorem step_len {P : Program} {ops : Array Oper} {o : Oper} {a : Act} {w : World} {Kc : Act → World → Prop} {Q : Exit → Act → World → Prop} {H : Type} (hw : Region.wanted o (yielded ops a.tmps) = true) (m : Operand) (t : TypeId) (hop : o.op = Op.call { callee := Callee.builtin Builtin.len, args := #[m], argTypes := #[t] })
    (k e : TypeId) (ht : P.underlying t = some (.map k e)) (R : Value → Option (DataW H × List MemPlace)) (b n : Nat) (D : DataW H) (hm : a.eval m = .map (some b)) (hown : w.ownsMap P k R b n D)
    (h : Kc (a.put o.dst (.int .i64 (Maps.size D))) w) : if Region.wanted o (yielded ops a.tmps) = true then Oper.wp P o a w Kc Q else Kc (a.put o.dst undef) w := by
  rw [if_pos hw]
  unfold Oper.wp
  simp [execOp, hop, resolve, invoke, builtin, hm, hown.len ht o.type, Result.andThen]
  exact h

set_option maxHeartbeats 4000000 in
set_option maxRecDepth 100000 in
theorem feed_good (W : World) (base g bm : Nat) (vl vd : Value) (wv : List (Int × Value)) (J : Jn) (K : Int) (k : Nat) (p : S29) (A : Option Addr) (c : Nat) (h : JM W base g bm vl vd (.slice none 0 0) wv [] J) (ok : OkJ J K) (hK : K + J.nm ≤ 1000000000000) (hb : base ≤ W.heap.size)
    (hk : k < J.last.length) (hn0 : 0 ≤ p.f2) (hn1 : p.f2 < J.nm) (hr : 0 ≤ J.room) (hwl : 6 * J.wait.length ≤ 70000) (hp : p.f3.length ≤ 1000) (hc : p.f3.length ≤ c) (hs : Sl0 W (Mut g bm vl vd (.slice none 0 0)) A p.f3.length p.f3) :
    Calls Tryd.prog 35 #[.pointer (some ⟨g, 0, none⟩), .int .i64 (k : Int), pc p.f0 p.f1 p.f2 A p.f3.length c] W fun e W' => ∃ vd' ve' wv' er', e = .returned (.tuple #[ve', .int .i64 0]) ∧
      JM W' base g bm vl vd' (.slice none 0 0) wv' [] { thinJ J.room.toNat (runJ (laidJ J k p)) with evs := [] } ∧ (rawK 4).R 84 W' base (fun _ => True) ve' er' ∧ All2 (EvOK W' (Mut g bm vl vd' (.slice none 0 0))) (thinJ J.room.toNat (runJ (laidJ J k p))).evs er' ∧
      Kept W W' (Mut g bm vl vd (.slice none 0 0)) ∧ (∀ k, k < W.heap.size → Mut g bm vl vd' (.slice none 0 0) k → Mut g bm vl vd (.slice none 0 0) k) ∧ Below base W W' := by
  obtain ⟨gl, cap, rfl⟩ := last_row h ok.last0
  obtain ⟨b0, b1, b2, b3, b4, b5⟩ := place_bound (num := p.f2) ok (Int.natCast_nonneg k) (by omega)
  have hnm := ok.nm0
  obtain ⟨lst, hlst⟩ : ∃ q, J.last.getD k 0 = q := ⟨_, rfl⟩
  obtain ⟨place, hplace⟩ : ∃ q, placeJ J k p.f2 = q := ⟨_, rfl⟩
  simp only [Int.toNat_natCast] at b2 b4 b5
  rw [hlst] at b2 b4 b5
  rw [hplace] at b0 b1 b2
  have hpe : lst + 1 + Int.tmod (Int.tmod (p.f2 - (lst + 1)) J.nm + J.nm) J.nm = place := by
    rw [← hplace, ← hlst, placeJ, Int.toNat_natCast]
  have t1 := Int.tmod_lt_of_pos (p.f2 - (lst + 1)) hnm
  have t2 : -J.nm < Int.tmod (p.f2 - (lst + 1)) J.nm := Int.lt_tmod_of_pos _ hnm
  have hw1 : IntKind.i64.wrap (lst + 1) = lst + 1 := IntWalk.i64_in _ (by omega)
  have hw2 : IntKind.i64.wrap (p.f2 - (lst + 1)) = p.f2 - (lst + 1) := IntWalk.i64_in _ (by omega)
  have hw3 : IntKind.i64.wrap (Int.tmod (p.f2 - (lst + 1)) J.nm + J.nm) = Int.tmod (p.f2 - (lst + 1)) J.nm + J.nm := IntWalk.i64_in _ (by omega)
  have hw4 : IntKind.i64.wrap (lst + 1 + Int.tmod (Int.tmod (p.f2 - (lst + 1)) J.nm + J.nm) J.nm) = place := by rw [hpe]; exact IntWalk.i64_in _ (by omega)
  have hw5 : IntKind.i64.wrap (Int.tmod (p.f2 - (lst + 1)) J.nm) = Int.tmod (p.f2 - (lst + 1)) J.nm := IntWalk.i64_in _ (by omega)
  have hz : J.nm ≠ 0 := by omega
  have hdn0 : decide (p.f2 < 0) = false := decide_eq_false (by omega)
  have hdn1 : decide (J.nm ≤ p.f2) = false := decide_eq_false (by omega)
  have hdk0 : decide ((k : Int) < 0) = false := decide_eq_false (by omega)
  have hdk1 : decide ((J.last.length : Int) ≤ (k : Int)) = false := decide_eq_false (by omega)
  have hdk2 : decide (J.last.length ≤ k) = false := decide_eq_false (by omega)
  have HJ0 := Aside0.mk h
  have HSL0 := Aside0.mk hs
  have HOK := Aside0.mk ok
  have HB := Aside0.mk (And.intro b0 (And.intro b1 (And.intro b2 (And.intro b3 (And.intro b4 b5)))))
  have HL := Aside0.mk hlst
  have HPL := Aside0.mk hplace
  have HC := Aside0.mk (And.intro hp hc)
  have HN := Aside0.mk (And.intro hn0 (And.intro hn1 (And.intro hK hwl)))
  clear h hs ok b0 b1 b2 b3 b4 b5 hlst hplace hc hp hn0 hn1 hK hwl hpe t1 t2
  go_enter Tryd.func35, Tryd.ntmps35
  go_upto_block 0 with (fail)
  have hbw := below_alloc (Below.refl W.heap.size W) (.cells #[.bool p.f0, .bool p.f1, .int .i64 p.f2, .slice A p.f3.length c] 29)
  have hb1 := Aside0.mk hbw
  have HP := Aside0.mk (new1 W (.cells #[.bool p.f0, .bool p.f1, .int .i64 p.f2, .slice A p.f3.length c] 29))
  have hlt1 : W.heap.size < (W.alloc (.cells #[.bool p.f0, .bool p.f1, .int .i64 p.f2, .slice A p.f3.length c] 29)).heap.size := by rw [World.size_alloc]; omega
  have HLT := Aside0.mk hlt1
  have hP5 : ¬ Mut g bm (.slice (some ⟨gl, 0, none⟩) J.last.length cap) vd (.slice none 0 0) W.heap.size := fun e => absurd (mut_lt HJ0.out _ e) (Nat.lt_irrefl _)
  have HP5 := Aside0.mk hP5
  have HBS := Aside0.mk (show base ≤ W.heap.size from hb)
  clear hbw hlt1 hP5 hb
  obtain ⟨g5, hg5⟩ : ∃ q, W.heap.size = q := ⟨_, rfl⟩
  rw [hg5] at HP HP5 HLT
  simp only [hg5]
  have HG5 := Aside0.mk hg5
  clear hg5
  generalize W.alloc (.cells #[.bool p.f0, .bool p.f1, .int .i64 p.f2, .slice A p.f3.length c] 29) = W1 at hb1 HP HLT ⊢
  have HJ1 := Aside0.mk (jm_below HJ0.out hb1.out)
  have hg := HJ1.out.hg
  have c0 := blk_cell hg 0
  have c3 := blk_cell hg 3
  simp at c0 c3
  obtain ⟨p0, p1, p2, p3⟩ := cells4 HP.out
  clear hg
  go_wp2_with (fail)
  go_quiet (fail)
  have HB2 := Aside0.mk (below_drewN hb1.out nq)
  have HP2 := Aside0.mk (show (W1.drewN nq).heap[g5]? = _ from HP.out)
  have HLT2 := Aside0.mk (show g5 < (W1.drewN nq).heap.size from HLT.out)
  clear c0 c3 p0 p1 p2 p3 hb1 HP HLT HJ1
  generalize W1.drewN nq = W2 at HB2 HP2 HLT2 ⊢
  have HJ2 := Aside0.mk (jm_below HJ0.out HB2.out)
  have hg := HJ2.out.hg
  have c0 := blk_cell hg 0
  have c3 := blk_cell hg 3
  have c4 := blk_cell hg 4
  have c5 := blk_cell hg 5
  simp at c0 c3 c4 c5
  obtain ⟨p0, p1, p2, p3⟩ := cells4 HP2.out
  obtain ⟨cl, fl⟩ := last_at HJ2.out k hk
  rw [HL.out] at cl
  clear hg
  go_wp2_with (fail)
  go_quiet (fail)
  have HB3 := Aside0.mk (below_drewN HB2.out nq)
  have HP3 := Aside0.mk (show (W2.drewN nq).heap[g5]? = _ from HP2.out)
  have HLT3 := Aside0.mk (show g5 < (W2.drewN nq).heap.size from HLT2.out)
  clear c0 c3 c4 c5 p0 p1 p2 p3 cl fl HB2 HP2 HLT2 HJ2
  generalize W2.drewN nq = W3 at HB3 HP3 HLT3 ⊢
  have HJ3 := Aside0.mk (jm_below HJ0.out HB3.out)
  have hg := HJ3.out.hg
  have c3 := blk_cell hg 3
  simp at c3
  obtain ⟨cl, fl⟩ := last_at HJ3.out k hk
  clear hg
  go_upto_region 8 with (fail)
  obtain ⟨hJ4, hk4, hbgl⟩ := JM_last HJ3.out k hk place
  have HJ4 := Aside0.mk hJ4
  have HK4 := Aside0.mk (kept_trans (kept_of_below HB3.out (Mut g bm (.slice (some ⟨gl, 0, none⟩) J.last.length cap) vd (.slice none 0 0))) hk4 (fun _ _ h => h))
  have HKG4 := Aside0.mk (show Kept W (W3.setCell ⟨gl, k, none⟩ (.int .i64 place)) (fun j => j = gl) from ⟨by simpa [World.setCell] using HB3.out.size, fun j hj hs => (far_cell W3 gl k j _ hs).trans (HB3.out.block j hj)⟩)
  have HB4 := Aside0.mk ((HB3.out.mono HBS.out).setCell (p := ⟨gl, k, none⟩) hbgl (.int .i64 place))
  have HP4 := Aside0.mk ((hk4.2 g5 HLT3.out (fun e => HP5.out e)).trans HP3.out)
  have HLT4 := Aside0.mk (Nat.lt_of_lt_of_le HLT3.out hk4.1)
  clear hJ4 hk4 hbgl c3 cl fl HJ3 HB3 HP3 HLT3
  generalize W3.setCell ⟨gl, k, none⟩ (.int .i64 place) = W4 at HJ4 HK4 HKG4 HB4 HP4 HLT4 ⊢
  obtain ⟨x0, x1, x2, xA, xl, xc, hlk⟩ := look_at HJ4.out place HB.out.1 (by have := HB.out.2.1; have := HN.out.2.2.1; omega)
  have hlk4 := hlk W4 rfl
  have hhas : hasJ { J with last := J.last.set k place } place = hasJ J place := rfl
  rw [hhas] at hlk4
  have hg := HJ4.out.hg
  have c4 := blk_cell hg 4
  simp at c4
  clear hlk hhas hg
  go_upto_region 9 with (fail)
  have hb5 := below_alloc (Below.refl W4.heap.size W4) (.cells #[.bool x0, .bool x1, .int .i64 x2, .slice xA xl xc] 29)
  have HK5 := Aside0.mk (kept_trans HK4.out (kept_of_below hb5 (Mut g bm (.slice (some ⟨gl, 0, none⟩) J.last.length cap) vd (.slice none 0 0))) (fun _ _ h => h))
  have HJ5 := Aside0.mk (jm_below HJ4.out hb5)
  have HKG5 := Aside0.mk (kept_trans HKG4.out (kept_of_below hb5 (fun j => j = gl)) (fun _ _ h => h))
  have HB5 := Aside0.mk (HB4.out.trans (hb5.mono (Nat.le_trans HBS.out HK4.out.1)))
  have HP5' := Aside0.mk (blk_keep HP4.out hb5)
  have HLT5 := Aside0.mk (Nat.lt_of_lt_of_le HLT4.out hb5.size)
  clear hb5 hlk4 c4 HJ4 HK4 HKG4 HB4 HP4 HLT4
  obtain ⟨g6, hg6⟩ : ∃ q, W4.heap.size = q := ⟨_, rfl⟩
  simp only [hg6]
  clear hg6
  generalize W4.alloc (.cells #[.bool x0, .bool x1, .int .i64 x2, .slice xA xl xc] 29) = W5 at HJ5 HK5 HKG5 HB5 HP5' HLT5 ⊢
  have hg := HJ5.out.hg
  have c5 := blk_cell hg 5
  have c4 := blk_cell hg 4
  simp at c4 c5
  obtain ⟨p0, p1, p2, p3⟩ := cells4 HP5'.out
  clear hg
  have hlaid : laidJ J k p = if !hasJ J place && decide (J.next ≤ place) then { J with last := J.last.set k place, wait := insK (place, p) J.wait } else { J with last := J.last.set k place } := by
    simp only [laidJ, HPL.out, Int.toNat_natCast]
  have HLD := Aside0.mk hlaid
  clear hlaid
  cases hh : hasJ J place with
  | true =>
    have hJL : JM W5 base g bm (.slice (some ⟨gl, 0, none⟩) J.last.length cap) vd (.slice none 0 0) wv [] (laidJ J k p) := by
      rw [HLD.out, hh]
      exact HJ5.out
    have hX : ∃ wv1, JM W5 base g bm (.slice (some ⟨gl, 0, none⟩) J.last.length cap) vd (.slice none 0 0) wv1 [] (laidJ J k p) ∧ Kept W W5 (Mut g bm (.slice (some ⟨gl, 0, none⟩) J.last.length cap) vd (.slice none 0 0)) ∧ Below base W W5 := ⟨wv, hJL, HK5.out, HB5.out⟩
    clear hJL c4 c5 p0 p1 p2 p3
    obtain ⟨V, hV⟩ : ∃ V, V = W5 := ⟨_, rfl⟩
    subst hV
    --REST
    obtain ⟨wv1, hJc, hKc, hBc⟩ := hX
    have HKV := Aside0.mk hKc
    have HBV := Aside0.mk hBc
    obtain ⟨okL, lenL, evL⟩ := laid_ok (p := p) HOK.out (Int.natCast_nonneg k) (by omega) HC.out.1
    have hK' : K + J.nm ≤ 1000000000000 := HN.out.2.2.1
    have hphi : 2 * phi (laidJ J k p) ≤ 70012 := by
      have h1 := HN.out.2.2.2
      unfold phi
      split <;> split <;> (try split) <;> omega
    have hbV : base ≤ V.heap.size := Nat.le_trans HBS.out hKc.1
    have hrun := run_any V base g bm _ vd (.slice none 0 0) wv1 [] (laidJ J k p) (K + J.nm) hJc okL hK' hbV (by simp; omega)
    obtain ⟨r1, r2, r3, r4, r5, r6, r7, r8⟩ := run_ok okL
    have hroomL : (laidJ J k p).room = J.room := by rw [HLD.out]; split <;> rfl
    have HR := Aside0.mk (And.intro r1 (And.intro r2 (And.intro r3 (And.intro (r5.trans hroomL) (And.intro hphi evL)))))
    have hevJ : (laidJ J k p).evs.length = 0 := by
      rw [evL]
      exact (HJ0.out.hev.1).symm
    have HEV := Aside0.mk hevJ
    clear hJc hKc hBc okL lenL evL hphi r1 r2 r3 r4 r5 r6 r7 r8 hroomL hevJ
    go_wp2_with (first
      | (go_at_call 50; refine hrun.mono ?_; rintro e w2 ⟨vd2, ve2, wv2, er2, ⟨v2, rfl⟩, hJ2, hk2, hm2, hb2⟩; have HJ2 := Aside0.mk hJ2; have HK2 := Aside0.mk hk2; have HM2 := Aside0.mk hm2; have HB2 := Aside0.mk hb2; clear hJ2 hk2 hm2 hb2))
    go_loopg [103] ((runJ (laidJ J k p)).wait.length) (fun kk v3 wr => Aside0 (∃ vd1 ve1 wv3 er1 J1, kk = J1.wait.length ∧ JM wr base g bm (.slice (some ⟨gl, 0, none⟩) J.last.length cap) vd1 ve1 wv3 er1 J1 ∧ OkJ J1 (K + J.nm) ∧ stepJ J1 = none ∧ J1.room = J.room ∧ thinJ J.room.toNat J1 = thinJ J.room.toNat (runJ (laidJ J k p)) ∧ er1.length + 2 * phi J1 ≤ 70012 ∧ Kept W wr (Mut g bm (.slice (some ⟨gl, 0, none⟩) J.last.length cap) vd (.slice none 0 0)) ∧ (∀ k, k < W.heap.size → Mut g bm (.slice (some ⟨gl, 0, none⟩) J.last.length cap) vd1 ve1 k → Mut g bm (.slice (some ⟨gl, 0, none⟩) J.last.length cap) vd (.slice none 0 0) k) ∧ Below base W wr))
    case atStart =>
      refine ⟨vd2, ve2, wv2, er2, _, rfl, HJ2.out, HR.out.1, HR.out.2.1, HR.out.2.2.2.1, rfl, ?_, kept_trans HKV.out HK2.out (fun _ _ h => h), fun j hj hm => HM2.out j (Nat.lt_of_lt_of_le hj HKV.out.1) hm, HBV.out.trans HB2.out⟩
      have h1 := HJ2.out.hev.1
      have h2 := HR.out.2.2.1
      have h3 := HEV.out
      have h4 := HR.out.2.2.2.2.1
      omega
    case round =>
      obtain ⟨vd1, ve1, wv3, er1, J1, rfl, hJ1, hok1, hst1, hrm1, hthin, hlen1, hk1, hm1, hb1⟩ := hrel.out
      clear hrel
      have hg := hJ1.hg
      have c4 := blk_cell hg 4
      have c1 := blk_cell hg 1
      simp at c4 c1
      have hmap := hJ1.hmap
      have hsz : Maps.size (mapD wv3) = J1.wait.length := by simp [Maps.size, hJ1.hwv.1]
      have hln : ∀ q, (Builtin.len_ #[99] 3 #[.map (some bm)]).run Tryd.prog (wr.drewN q) = .ok (.int .i64 J1.wait.length) (wr.drewN q) := fun q => by
        have h0 : (wr.drewN q).ownsMap Tryd.prog 3 elemR bm wv3.length (mapD wv3) := hmap
        have h1 := h0.len Tryd.underlying99 3
        rw [hsz] at h1
        exact h1
      have hbs : base ≤ wr.heap.size := Nat.le_trans HBS.out hk1.1
      rw [hrm1] at c1
      have HH1 := Aside0.mk (And.intro hJ1 (And.intro hok1 (And.intro hst1 (And.intro hrm1 (And.intro hthin (And.intro hlen1 (And.intro hk1 (And.intro hm1 hb1))))))))
      clear hJ1 hok1 hst1 hrm1 hthin hlen1 hk1 hm1 hb1 hg
      by_cases hz : (J1.wait.length : Int) ≤ J.room
      · have hd1 : decide (J.room < (J1.wait.length : Int)) = false := decide_eq_false (by omega)
        have HZ := Aside0.mk hz
        clear hz
        go_wp2_with (fail)
        go_quiet (fail)
        obtain ⟨hJ1, hok1, hst1, hrm1, hthin, hlen1, hk1, hm1, hb1⟩ := HH1.out
        have htk := take_any (wr.drewN nq) base g bm _ vd1 ve1 wv3 er1 J1 (jm_below hJ1 (below_drewN (Below.refl _ _) nq))
        clear hJ1 hok1 hst1 hrm1 hthin hlen1 hk1 hm1 hb1
        go_wp2_with (first
          | (go_at_call 48; refine htk.mono ?_; rintro e w3 ⟨rfl, hJ3, hev3, hevs3, hk3, hm3, hb3⟩; have HY := Aside0.mk (And.intro hJ3 (And.intro hev3 (And.intro hevs3 (And.intro hk3 (And.intro hm3 hb3))))); clear hJ3 hev3 hevs3 hk3 hm3 hb3))
        go_ret2
        obtain ⟨hJ1, hok1, hst1, hrm1, hthin, hlen1, hk1, hm1, hb1⟩ := HH1.out
        obtain ⟨hJ3, hev3, hevs3, hk3, hm3, hb3⟩ := HY.out
        have ht : J1 = thinJ J.room.toNat (runJ (laidJ J k p)) := (thin_stop (by have := HZ.out; omega)).symm.trans hthin
        rw [← ht]
        exact ⟨vd1, ve1, wv3, er1, rfl, hJ3, hev3, hevs3, kept_trans hk1 hk3 hm1, fun j hj hm => hm1 j hj (hm3 j (Nat.lt_of_lt_of_le hj hk1.1) hm), (below_drewN hb1 nq).trans hb3⟩
      · have hd1 : decide (J.room < (J1.wait.length : Int)) = true := decide_eq_true (by omega)
        have HZ := Aside0.mk hz
        clear hz
        go_wp2_with (fail)
        go_quiet (fail)
        obtain ⟨hJ1, hok1, hst1, hrm1, hthin, hlen1, hk1, hm1, hb1⟩ := HH1.out
        have hlt : J.room.toNat < J1.wait.length := by have := HZ.out; omega
        have hne : J1.wait ≠ [] := fun e => by rw [e] at hlt; simp at hlt
        obtain ⟨k1, k2, k3, k4, k5, k6, k7, k8, k9⟩ := skip_ok hok1 hst1
        have hsk := skip_any (wr.drewN nq) base g bm _ vd1 ve1 wv3 er1 J1 (K + J.nm) (jm_below hJ1 (below_drewN (Below.refl _ _) nq)) hok1 hst1 hK' (show base ≤ (wr.drewN nq).heap.size from hbs) (by omega) hne
        have HS := Aside0.mk (And.intro k1 (And.intro k2 (And.intro k3 (And.intro (k9 hne) (And.intro ((thin_step hok1 hst1 hlt).symm.trans hthin) (And.intro hk1 (And.intro hm1 (And.intro hb1 (And.intro hlen1 (And.intro hJ1.hev.1 (k5.trans hrm1)))))))))))
        clear hJ1 hok1 hst1 hrm1 hthin hlen1 hk1 hm1 hb1 hlt hne k1 k2 k3 k4 k5 k6 k7 k8 k9
        go_wp2_with (first
          | (go_at_call 47; refine hsk.mono ?_; rintro e w3 ⟨vd3, ve3, wv4, er3, ⟨v3, rfl⟩, hJ3, hk3, hm3, hb3⟩; have HY := Aside0.mk (And.intro hJ3 (And.intro hk3 (And.intro hm3 hb3))); clear hJ3 hk3 hm3 hb3))
        obtain ⟨x1, x2, x3, x4, x5, x6, x7, x8, x9, x10, x11⟩ := HS.out
        obtain ⟨hJ3, hk3, hm3, hb3⟩ := HY.out
        go_roundg ((skipJ J1).wait.length)
        case measure => exact x4
        case rel =>
          refine ⟨vd3, ve3, wv4, er3, skipJ J1, rfl, hJ3, x1, x2, x11, x5, ?_, kept_trans x6 hk3 x7, fun j hj hm => x7 j hj (hm3 j (Nat.lt_of_lt_of_le hj x6.1) hm), (below_drewN x8 nq).trans hb3⟩
          have := hJ3.hev.1
          omega
    --END
  | false =>
    by_cases hge : J.next ≤ place
    · have hd1 : decide (J.next ≤ place) = true := decide_eq_true hge
      have HH := Aside0.mk (And.intro hh hge)
      clear hh hge
      go_upto_if 90 with (fail)
      go_cut [] from 11 (fun wc => ∃ wv1, JM wc base g bm (.slice (some ⟨gl, 0, none⟩) J.last.length cap) vd (.slice none 0 0) wv1 [] (laidJ J k p) ∧ Kept W wc (Mut g bm (.slice (some ⟨gl, 0, none⟩) J.last.length cap) vd (.slice none 0 0)) ∧ Below base W wc)
      case first =>
        have hsl5 : Sl0 W5 (Mut g bm (.slice (some ⟨gl, 0, none⟩) J.last.length cap) vd (.slice none 0 0)) A p.f3.length p.f3 := HSL0.out.kept HK5.out (fun _ _ h => h)
        have hC := Kd.F_now hsl5
        have hA : A = none → p.f3.length = 0 := fun e => by
          rcases Nat.eq_zero_or_pos p.f3.length with e0 | e0
          · exact e0
          · obtain ⟨ad, e2, -⟩ := hC.2.2 e0
            rw [e] at e2
            cases e2
        have hcl := clone_any A p.f3.length c p.f3 W5 hC HC.out.2 hA (by have := HC.out.1; omega)
        clear hsl5 hC hA
        go_wp2_with (first
          | (go_at_call 41; refine hcl.mono ?_; rintro e w6 ⟨A6, c6, rfl, hlc6, hR6, hb6⟩; have HX6 := Aside0.mk (And.intro hlc6 (And.intro hR6 hb6)); have hp6 := blk_keep HP5'.out hb6; obtain ⟨z0, z1, z2, z3⟩ := cells4 hp6; have fz6 : ∀ j, w6.frozen? ⟨g5, j, none⟩ = false := fun j => blk_frozen hp6 j; have HP6 := Aside0.mk hp6; clear hlc6 hR6 hb6 hp6))
        obtain ⟨hlc6, hR6, hb6⟩ := HX6.out
        have hHP7 := blk_set HP6.out 3 (.slice A6 p.f3.length c6)
        have hR7 := Kd.R_set hR6 HP6.out (by intro q hq; simp [Kd.int, Kd.scalar] at hq; subst hq; decide) 3 (.slice A6 p.f3.length c6)
        have hL7 := Kd.R_set (Kd.R_below HJ5.out.hlast hb6) HP6.out (by intro q hq; simp [Kd.int, Kd.scalar] at hq; subst hq; decide) 3 (.slice A6 p.f3.length c6)
        have hK7 : Kept W (w6.setCell ⟨g5, 3, none⟩ (.slice A6 p.f3.length c6)) (fun j => j = gl) := by
          have h1 := kept_trans HKG5.out (kept_of_below hb6 (fun j => j = gl)) (fun _ _ h => h)
          refine ⟨by simpa [World.setCell] using h1.1, fun j hj hs => (far_cell w6 g5 3 j _ (fun e => ?_)).trans (h1.2 j hj hs)⟩
          have := HG5.out
          omega
        have hB7 := (HB5.out.trans (hb6.mono (Nat.le_trans HBS.out HKG5.out.1))).setCell (p := ⟨g5, 3, none⟩) (by have h1 := HG5.out; have h2 := HBS.out; show base ≤ g5; omega) (.slice A6 p.f3.length c6)
        obtain ⟨hJ7, hkk7⟩ := JM_lasts HJ0.out hK7 hL7
        have hlt7 : ∀ j, some j = (Value.slice A6 p.f3.length c6).ownBlock → W5.heap.size ≤ j ∧ j < (w6.setCell ⟨g5, 3, none⟩ (.slice A6 p.f3.length c6)).heap.size := fun j hj => ⟨Kd.R_base hR7 j hj.symm, Kd.R_lt hR7 j hj.symm⟩
        have hsl7 : Sl (w6.setCell ⟨g5, 3, none⟩ (.slice A6 p.f3.length c6)) (Mut g bm (.slice (some ⟨gl, 0, none⟩) J.last.length cap) vd (.slice none 0 0)) A6 p.f3.length p.f3 := by
          refine Kd.F_mono (Kd.R_F (Kd.R_tight rfl hR7)) fun j hj => ?_
          obtain ⟨q1, q2⟩ := hlt7 j hj
          refine ⟨q2, fun hm => ?_, own_type hR7 j hj⟩
          have := mut_lt HJ5.out j hm
          omega
        have HP7 := Aside0.mk hHP7
        have HJ7 := Aside0.mk hJ7
        have HK7 := Aside0.mk hkk7
        have HB7 := Aside0.mk hB7
        have HSL7 := Aside0.mk (And.intro hlc6 hsl7)
        clear z0 z1 z2 z3 fz6 HP6 HX6 hlc6 hR6 hb6 hHP7 hR7 hL7 hK7 hB7 hJ7 hkk7 hlt7 hsl7 c4 c5 p0 p1 p2 p3
        generalize w6.setCell ⟨g5, 3, none⟩ (.slice A6 p.f3.length c6) = W7 at HP7 HJ7 HK7 HB7 HSL7 ⊢
        have hg := HJ7.out.hg
        have c4 := blk_cell hg 4
        simp at c4
        have hP7 := HP7.out
        simp at hP7
        obtain ⟨p0, p1, p2, p3⟩ := cells4 hP7
        have hmap : W7.drew.ownsMap Tryd.prog 3 elemR bm _ _ := HJ7.out.hmap
        have hkey := key64 HB.out.1 (show place ≤ 1000000000001 by have := HB.out.2.1; have := HN.out.2.2.1; omega)
        have hwl : wv.length < maxLen := by
          have h1 := HJ0.out.hwv.1
          have h2 := HN.out.2.2.2
          unfold maxLen
          omega
        clear hg hP7
        go_still_tail 6, (by kernel_rfl)
        change wpList _ _ _ _ _ W7.drew
        go_wp2_with (at_mapUpdate; refine wpList_mapUpdate_own _ rfl _ _ _ 99 rfl 3 29 (Maps.int_keyed Tryd.underlying3) Tryd.underlying99 elemR bm _ _ rfl hmap hwl _ _ _ rfl rfl hkey (.held (pc p.f0 p.f1 p.f2 A6 p.f3.length c6)) [] rfl ?_; intro w8 hown8 hgr8)
        go_meet
        obtain ⟨h1, h2⟩ := JM_put (jm_drew HJ7.out) hgr8 HH.out.1 hown8 ⟨rfl, A6, c6, rfl, HSL7.out.1, HSL7.out.2⟩
        refine ⟨insK (place, pc p.f0 p.f1 p.f2 A6 p.f3.length c6) wv, ?_, kept_trans HK7.out h2 (fun _ _ h => h), ?_⟩
        · rw [HLD.out, HH.out.1, decide_eq_true HH.out.2]
          exact h1
        · have hbs : base ≤ W7.drew.heap.size := Nat.le_trans HBS.out HK7.out.1
          exact HB7.out.trans ((below_drew (Below.refl base W7)).grown hgr8 hbs (fun k e => by cases e; exact HJ0.out.hbm))
      case rest =>
        have hX := hcut
        clear hcut c4 c5 p0 p1 p2 p3
        obtain ⟨V, hV⟩ : ∃ V, V = wc := ⟨_, rfl⟩
        subst hV
        obtain ⟨wv1, hJc, hKc, hBc⟩ := hX
        have HKV := Aside0.mk hKc
        have HBV := Aside0.mk hBc
        obtain ⟨okL, lenL, evL⟩ := laid_ok (p := p) HOK.out (Int.natCast_nonneg k) (by omega) HC.out.1
        have hK' : K + J.nm ≤ 1000000000000 := HN.out.2.2.1
        have hphi : 2 * phi (laidJ J k p) ≤ 70012 := by
          have h1 := HN.out.2.2.2
          unfold phi
          split <;> split <;> (try split) <;> omega
        have hbV : base ≤ V.heap.size := Nat.le_trans HBS.out hKc.1
        have hrun := run_any V base g bm _ vd (.slice none 0 0) wv1 [] (laidJ J k p) (K + J.nm) hJc okL hK' hbV (by simp; omega)
        obtain ⟨r1, r2, r3, r4, r5, r6, r7, r8⟩ := run_ok okL
        have hroomL : (laidJ J k p).room = J.room := by rw [HLD.out]; split <;> rfl
        have HR := Aside0.mk (And.intro r1 (And.intro r2 (And.intro r3 (And.intro (r5.trans hroomL) (And.intro hphi evL)))))
        have hevJ : (laidJ J k p).evs.length = 0 := by
          rw [evL]
          exact (HJ0.out.hev.1).symm
        have HEV := Aside0.mk hevJ
        clear hJc hKc hBc okL lenL evL hphi r1 r2 r3 r4 r5 r6 r7 r8 hroomL hevJ
        go_wp2_with (first
          | (go_at_call 50; refine hrun.mono ?_; rintro e w2 ⟨vd2, ve2, wv2, er2, ⟨v2, rfl⟩, hJ2, hk2, hm2, hb2⟩; have HJ2 := Aside0.mk hJ2; have HK2 := Aside0.mk hk2; have HM2 := Aside0.mk hm2; have HB2 := Aside0.mk hb2; clear hJ2 hk2 hm2 hb2))
        go_loopg [103] ((runJ (laidJ J k p)).wait.length) (fun kk v3 wr => Aside0 (∃ vd1 ve1 wv3 er1 J1, kk = J1.wait.length ∧ JM wr base g bm (.slice (some ⟨gl, 0, none⟩) J.last.length cap) vd1 ve1 wv3 er1 J1 ∧ OkJ J1 (K + J.nm) ∧ stepJ J1 = none ∧ J1.room = J.room ∧ thinJ J.room.toNat J1 = thinJ J.room.toNat (runJ (laidJ J k p)) ∧ er1.length + 2 * phi J1 ≤ 70012 ∧ Kept W wr (Mut g bm (.slice (some ⟨gl, 0, none⟩) J.last.length cap) vd (.slice none 0 0)) ∧ (∀ k, k < W.heap.size → Mut g bm (.slice (some ⟨gl, 0, none⟩) J.last.length cap) vd1 ve1 k → Mut g bm (.slice (some ⟨gl, 0, none⟩) J.last.length cap) vd (.slice none 0 0) k) ∧ Below base W wr))
        case atStart =>
          refine ⟨vd2, ve2, wv2, er2, _, rfl, HJ2.out, HR.out.1, HR.out.2.1, HR.out.2.2.2.1, rfl, ?_, kept_trans HKV.out HK2.out (fun _ _ h => h), fun j hj hm => HM2.out j (Nat.lt_of_lt_of_le hj HKV.out.1) hm, HBV.out.trans HB2.out⟩
          have h1 := HJ2.out.hev.1
          have h2 := HR.out.2.2.1
          have h3 := HEV.out
          have h4 := HR.out.2.2.2.2.1
          omega
        case round =>
          obtain ⟨vd1, ve1, wv3, er1, J1, rfl, hJ1, hok1, hst1, hrm1, hthin, hlen1, hk1, hm1, hb1⟩ := hrel.out
          clear hrel
          have hg := hJ1.hg
          have c4 := blk_cell hg 4
          have c1 := blk_cell hg 1
          simp at c4 c1
          have hmap := hJ1.hmap
          have hsz : Maps.size (mapD wv3) = J1.wait.length := by simp [Maps.size, hJ1.hwv.1]
          have hln : ∀ q, (Builtin.len_ #[99] 3 #[.map (some bm)]).run Tryd.prog (wr.drewN q) = .ok (.int .i64 J1.wait.length) (wr.drewN q) := fun q => by
            have h0 : (wr.drewN q).ownsMap Tryd.prog 3 elemR bm wv3.length (mapD wv3) := hmap
            have h1 := h0.len Tryd.underlying99 3
            rw [hsz] at h1
            exact h1
          have hbs : base ≤ wr.heap.size := Nat.le_trans HBS.out hk1.1
          rw [hrm1] at c1
          have HH1 := Aside0.mk (And.intro hJ1 (And.intro hok1 (And.intro hst1 (And.intro hrm1 (And.intro hthin (And.intro hlen1 (And.intro hk1 (And.intro hm1 hb1))))))))
          clear hJ1 hok1 hst1 hrm1 hthin hlen1 hk1 hm1 hb1 hg
          by_cases hz : (J1.wait.length : Int) ≤ J.room
          · have hd1 : decide (J.room < (J1.wait.length : Int)) = false := decide_eq_false (by omega)
            have HZ := Aside0.mk hz
            clear hz
            go_wp2_with (fail)
            go_quiet (fail)
            obtain ⟨hJ1, hok1, hst1, hrm1, hthin, hlen1, hk1, hm1, hb1⟩ := HH1.out
            have htk := take_any (wr.drewN nq) base g bm _ vd1 ve1 wv3 er1 J1 (jm_below hJ1 (below_drewN (Below.refl _ _) nq))
            clear hJ1 hok1 hst1 hrm1 hthin hlen1 hk1 hm1 hb1
            go_wp2_with (first
              | (go_at_call 48; refine htk.mono ?_; rintro e w3 ⟨rfl, hJ3, hev3, hevs3, hk3, hm3, hb3⟩; have HY := Aside0.mk (And.intro hJ3 (And.intro hev3 (And.intro hevs3 (And.intro hk3 (And.intro hm3 hb3))))); clear hJ3 hev3 hevs3 hk3 hm3 hb3))
            go_ret2
            obtain ⟨hJ1, hok1, hst1, hrm1, hthin, hlen1, hk1, hm1, hb1⟩ := HH1.out
            obtain ⟨hJ3, hev3, hevs3, hk3, hm3, hb3⟩ := HY.out
            have ht : J1 = thinJ J.room.toNat (runJ (laidJ J k p)) := (thin_stop (by have := HZ.out; omega)).symm.trans hthin
            rw [← ht]
            exact ⟨vd1, ve1, wv3, er1, rfl, hJ3, hev3, hevs3, kept_trans hk1 hk3 hm1, fun j hj hm => hm1 j hj (hm3 j (Nat.lt_of_lt_of_le hj hk1.1) hm), (below_drewN hb1 nq).trans hb3⟩
          · have hd1 : decide (J.room < (J1.wait.length : Int)) = true := decide_eq_true (by omega)
            have HZ := Aside0.mk hz
            clear hz
            go_wp2_with (fail)
            go_quiet (fail)
            obtain ⟨hJ1, hok1, hst1, hrm1, hthin, hlen1, hk1, hm1, hb1⟩ := HH1.out
            have hlt : J.room.toNat < J1.wait.length := by have := HZ.out; omega
            have hne : J1.wait ≠ [] := fun e => by rw [e] at hlt; simp at hlt
            obtain ⟨k1, k2, k3, k4, k5, k6, k7, k8, k9⟩ := skip_ok hok1 hst1
            have hsk := skip_any (wr.drewN nq) base g bm _ vd1 ve1 wv3 er1 J1 (K + J.nm) (jm_below hJ1 (below_drewN (Below.refl _ _) nq)) hok1 hst1 hK' (show base ≤ (wr.drewN nq).heap.size from hbs) (by omega) hne
            have HS := Aside0.mk (And.intro k1 (And.intro k2 (And.intro k3 (And.intro (k9 hne) (And.intro ((thin_step hok1 hst1 hlt).symm.trans hthin) (And.intro hk1 (And.intro hm1 (And.intro hb1 (And.intro hlen1 (And.intro hJ1.hev.1 (k5.trans hrm1)))))))))))
            clear hJ1 hok1 hst1 hrm1 hthin hlen1 hk1 hm1 hb1 hlt hne k1 k2 k3 k4 k5 k6 k7 k8 k9
            go_wp2_with (first
              | (go_at_call 47; refine hsk.mono ?_; rintro e w3 ⟨vd3, ve3, wv4, er3, ⟨v3, rfl⟩, hJ3, hk3, hm3, hb3⟩; have HY := Aside0.mk (And.intro hJ3 (And.intro hk3 (And.intro hm3 hb3))); clear hJ3 hk3 hm3 hb3))
            obtain ⟨x1, x2, x3, x4, x5, x6, x7, x8, x9, x10, x11⟩ := HS.out
            obtain ⟨hJ3, hk3, hm3, hb3⟩ := HY.out
            go_roundg ((skipJ J1).wait.length)
            case measure => exact x4
            case rel =>
              refine ⟨vd3, ve3, wv4, er3, skipJ J1, rfl, hJ3, x1, x2, x11, x5, ?_, kept_trans x6 hk3 x7, fun j hj hm => x7 j hj (hm3 j (Nat.lt_of_lt_of_le hj x6.1) hm), (below_drewN x8 nq).trans hb3⟩
              have := hJ3.hev.1
              omega
    · have hd1 : decide (J.next ≤ place) = false := decide_eq_false hge
      have hJL : JM W5 base g bm (.slice (some ⟨gl, 0, none⟩) J.last.length cap) vd (.slice none 0 0) wv [] (laidJ J k p) := by
        rw [HLD.out, hh, hd1]
        exact HJ5.out
      have hX : ∃ wv1, JM W5 base g bm (.slice (some ⟨gl, 0, none⟩) J.last.length cap) vd (.slice none 0 0) wv1 [] (laidJ J k p) ∧ Kept W W5 (Mut g bm (.slice (some ⟨gl, 0, none⟩) J.last.length cap) vd (.slice none 0 0)) ∧ Below base W W5 := ⟨wv, hJL, HK5.out, HB5.out⟩
      have HH := Aside0.mk (And.intro hh hge)
      clear hh hge hJL
      go_upto_if 90 with (fail)
      clear c4 c5 p0 p1 p2 p3
      obtain ⟨V, hV⟩ : ∃ V, V = W5 := ⟨_, rfl⟩
      subst hV
      obtain ⟨wv1, hJc, hKc, hBc⟩ := hX
      have HKV := Aside0.mk hKc
      have HBV := Aside0.mk hBc
      obtain ⟨okL, lenL, evL⟩ := laid_ok (p := p) HOK.out (Int.natCast_nonneg k) (by omega) HC.out.1
      have hK' : K + J.nm ≤ 1000000000000 := HN.out.2.2.1
      have hphi : 2 * phi (laidJ J k p) ≤ 70012 := by
        have h1 := HN.out.2.2.2
        unfold phi
        split <;> split <;> (try split) <;> omega
      have hbV : base ≤ V.heap.size := Nat.le_trans HBS.out hKc.1
      have hrun := run_any V base g bm _ vd (.slice none 0 0) wv1 [] (laidJ J k p) (K + J.nm) hJc okL hK' hbV (by simp; omega)
      obtain ⟨r1, r2, r3, r4, r5, r6, r7, r8⟩ := run_ok okL
      have hroomL : (laidJ J k p).room = J.room := by rw [HLD.out]; split <;> rfl
      have HR := Aside0.mk (And.intro r1 (And.intro r2 (And.intro r3 (And.intro (r5.trans hroomL) (And.intro hphi evL)))))
      have hevJ : (laidJ J k p).evs.length = 0 := by
        rw [evL]
        exact (HJ0.out.hev.1).symm
      have HEV := Aside0.mk hevJ
      clear hJc hKc hBc okL lenL evL hphi r1 r2 r3 r4 r5 r6 r7 r8 hroomL hevJ
      go_wp2_with (first
        | (go_at_call 50; refine hrun.mono ?_; rintro e w2 ⟨vd2, ve2, wv2, er2, ⟨v2, rfl⟩, hJ2, hk2, hm2, hb2⟩; have HJ2 := Aside0.mk hJ2; have HK2 := Aside0.mk hk2; have HM2 := Aside0.mk hm2; have HB2 := Aside0.mk hb2; clear hJ2 hk2 hm2 hb2))
      go_loopg [103] ((runJ (laidJ J k p)).wait.length) (fun kk v3 wr => Aside0 (∃ vd1 ve1 wv3 er1 J1, kk = J1.wait.length ∧ JM wr base g bm (.slice (some ⟨gl, 0, none⟩) J.last.length cap) vd1 ve1 wv3 er1 J1 ∧ OkJ J1 (K + J.nm) ∧ stepJ J1 = none ∧ J1.room = J.room ∧ thinJ J.room.toNat J1 = thinJ J.room.toNat (runJ (laidJ J k p)) ∧ er1.length + 2 * phi J1 ≤ 70012 ∧ Kept W wr (Mut g bm (.slice (some ⟨gl, 0, none⟩) J.last.length cap) vd (.slice none 0 0)) ∧ (∀ k, k < W.heap.size → Mut g bm (.slice (some ⟨gl, 0, none⟩) J.last.length cap) vd1 ve1 k → Mut g bm (.slice (some ⟨gl, 0, none⟩) J.last.length cap) vd (.slice none 0 0) k) ∧ Below base W wr))
      case atStart =>
        refine ⟨vd2, ve2, wv2, er2, _, rfl, HJ2.out, HR.out.1, HR.out.2.1, HR.out.2.2.2.1, rfl, ?_, kept_trans HKV.out HK2.out (fun _ _ h => h), fun j hj hm => HM2.out j (Nat.lt_of_lt_of_le hj HKV.out.1) hm, HBV.out.trans HB2.out⟩
        have h1 := HJ2.out.hev.1
        have h2 := HR.out.2.2.1
        have h3 := HEV.out
        have h4 := HR.out.2.2.2.2.1
        omega
      case round =>
        obtain ⟨vd1, ve1, wv3, er1, J1, rfl, hJ1, hok1, hst1, hrm1, hthin, hlen1, hk1, hm1, hb1⟩ := hrel.out
        clear hrel
        have hg := hJ1.hg
        have c4 := blk_cell hg 4
        have c1 := blk_cell hg 1
        simp at c4 c1
        have hmap := hJ1.hmap
        have hsz : Maps.size (mapD wv3) = J1.wait.length := by simp [Maps.size, hJ1.hwv.1]
        have hln : ∀ q, (Builtin.len_ #[99] 3 #[.map (some bm)]).run Tryd.prog (wr.drewN q) = .ok (.int .i64 J1.wait.length) (wr.drewN q) := fun q => by
          have h0 : (wr.drewN q).ownsMap Tryd.prog 3 elemR bm wv3.length (mapD wv3) := hmap
          have h1 := h0.len Tryd.underlying99 3
          rw [hsz] at h1
          exact h1
        have hbs : base ≤ wr.heap.size := Nat.le_trans HBS.out hk1.1
        rw [hrm1] at c1
        have HH1 := Aside0.mk (And.intro hJ1 (And.intro hok1 (And.intro hst1 (And.intro hrm1 (And.intro hthin (And.intro hlen1 (And.intro hk1 (And.intro hm1 hb1))))))))
        clear hJ1 hok1 hst1 hrm1 hthin hlen1 hk1 hm1 hb1 hg
        by_cases hz : (J1.wait.length : Int) ≤ J.room
        · have hd1 : decide (J.room < (J1.wait.length : Int)) = false := decide_eq_false (by omega)
          have HZ := Aside0.mk hz
          clear hz
          go_wp2_with (fail)
          go_quiet (fail)
          obtain ⟨hJ1, hok1, hst1, hrm1, hthin, hlen1, hk1, hm1, hb1⟩ := HH1.out
          have htk := take_any (wr.drewN nq) base g bm _ vd1 ve1 wv3 er1 J1 (jm_below hJ1 (below_drewN (Below.refl _ _) nq))
          clear hJ1 hok1 hst1 hrm1 hthin hlen1 hk1 hm1 hb1
          go_wp2_with (first
            | (go_at_call 48; refine htk.mono ?_; rintro e w3 ⟨rfl, hJ3, hev3, hevs3, hk3, hm3, hb3⟩; have HY := Aside0.mk (And.intro hJ3 (And.intro hev3 (And.intro hevs3 (And.intro hk3 (And.intro hm3 hb3))))); clear hJ3 hev3 hevs3 hk3 hm3 hb3))
          go_ret2
          obtain ⟨hJ1, hok1, hst1, hrm1, hthin, hlen1, hk1, hm1, hb1⟩ := HH1.out
          obtain ⟨hJ3, hev3, hevs3, hk3, hm3, hb3⟩ := HY.out
          have ht : J1 = thinJ J.room.toNat (runJ (laidJ J k p)) := (thin_stop (by have := HZ.out; omega)).symm.trans hthin
          rw [← ht]
          exact ⟨vd1, ve1, wv3, er1, rfl, hJ3, hev3, hevs3, kept_trans hk1 hk3 hm1, fun j hj hm => hm1 j hj (hm3 j (Nat.lt_of_lt_of_le hj hk1.1) hm), (below_drewN hb1 nq).trans hb3⟩
        · have hd1 : decide (J.room < (J1.wait.length : Int)) = true := decide_eq_true (by omega)
          have HZ := Aside0.mk hz
          clear hz
          go_wp2_with (fail)
          go_quiet (fail)
          obtain ⟨hJ1, hok1, hst1, hrm1, hthin, hlen1, hk1, hm1, hb1⟩ := HH1.out
          have hlt : J.room.toNat < J1.wait.length := by have := HZ.out; omega
          have hne : J1.wait ≠ [] := fun e => by rw [e] at hlt; simp at hlt
          obtain ⟨k1, k2, k3, k4, k5, k6, k7, k8, k9⟩ := skip_ok hok1 hst1
          have hsk := skip_any (wr.drewN nq) base g bm _ vd1 ve1 wv3 er1 J1 (K + J.nm) (jm_below hJ1 (below_drewN (Below.refl _ _) nq)) hok1 hst1 hK' (show base ≤ (wr.drewN nq).heap.size from hbs) (by omega) hne
          have HS := Aside0.mk (And.intro k1 (And.intro k2 (And.intro k3 (And.intro (k9 hne) (And.intro ((thin_step hok1 hst1 hlt).symm.trans hthin) (And.intro hk1 (And.intro hm1 (And.intro hb1 (And.intro hlen1 (And.intro hJ1.hev.1 (k5.trans hrm1)))))))))))
          clear hJ1 hok1 hst1 hrm1 hthin hlen1 hk1 hm1 hb1 hlt hne k1 k2 k3 k4 k5 k6 k7 k8 k9
          go_wp2_with (first
            | (go_at_call 47; refine hsk.mono ?_; rintro e w3 ⟨vd3, ve3, wv4, er3, ⟨v3, rfl⟩, hJ3, hk3, hm3, hb3⟩; have HY := Aside0.mk (And.intro hJ3 (And.intro hk3 (And.intro hm3 hb3))); clear hJ3 hk3 hm3 hb3))
          obtain ⟨x1, x2, x3, x4, x5, x6, x7, x8, x9, x10, x11⟩ := HS.out
          obtain ⟨hJ3, hk3, hm3, hb3⟩ := HY.out
          go_roundg ((skipJ J1).wait.length)
          case measure => exact x4
          case rel =>
            refine ⟨vd3, ve3, wv4, er3, skipJ J1, rfl, hJ3, x1, x2, x11, x5, ?_, kept_trans x6 hk3 x7, fun j hj hm => x7 j hj (hm3 j (Nat.lt_of_lt_of_le hj x6.1) hm), (below_drewN x8 nq).trans hb3⟩
            have := hJ3.hev.1
            omega

end Go.Proofs.YtgopklnfdlnojaaDoor.Ix
