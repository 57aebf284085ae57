/- Lanes of pieces in memory. -/
import Derived.Test.YtgopklnfdlnojaaDoorYb
namespace Go.Proofs.YtgopklnfdlnojaaDoor.Za
open Go.RowKit Go.Proofs.YtgopklnfdlnojaaDoor.Ga Go.Proofs.YtgopklnfdlnojaaDoor.My Go.Proofs.YtgopklnfdlnojaaDoor.Gb Go.Proofs.YtgopklnfdlnojaaDoor.Gp Go.Proofs.YtgopklnfdlnojaaDoor.Sa Go.Proofs.YtgopklnfdlnojaaDoor.Sb Go.Proofs.YtgopklnfdlnojaaDoor.Ja Go.Proofs.YtgopklnfdlnojaaDoor.Jb Go.Proofs.YtgopklnfdlnojaaDoor.Jc Go.Proofs.YtgopklnfdlnojaaDoor.Ji Go.Proofs.YtgopklnfdlnojaaDoor.Xa Go.Proofs.YtgopklnfdlnojaaDoor.Xb Go.Proofs.YtgopklnfdlnojaaDoor.Xc Go.Proofs.YtgopklnfdlnojaaDoor.Yb Go.Proofs.YtgopklnfdlnojaaDoorW.PrintWords Go.Proofs.YtgopklnfdlnojaaDoorW.PrintLast Go.Proofs.YtgopklnfdlnojaaDoorW.PrintMore
set_option linter.unusedVariables false
set_option linter.unusedSimpArgs false

/-- A slice as a cell. -/
def encS (x : Ch) : Value := .slice x.1 x.2.1 x.2.2
theorem encS_one (x : Ch) : (encS x).oneCell' = true := rfl
def slK : Kd Ch := Kd.scalar encS encS_one
def no : Ch := (none, 0, 0)
/-- A piece's cells; its octets lie in blocks of octets. -/
def PcS (W : World) (x : S29) (r : List Value) : Prop := ∃ A3 c3, r = [.bool x.f0, .bool x.f1, .int .i64 x.f2, .slice A3 x.f3.length c3] ∧ x.f3.length ≤ c3 ∧ Sl W (fun _ => False) A3 x.f3.length x.f3
theorem PcS.over {W W' : World} {t : Nat} {x : S29} {r : List Value} (h : PcS W x r) (ho : Over t W W') (ht : t ≠ 5) : PcS W' x r := by
  obtain ⟨A, c, h1, h2, h3⟩ := h
  exact ⟨A, c, h1, h2, Sl_over h3 ho ht⟩
theorem PcS.below {W W' : World} {x : S29} {r : List Value} (h : PcS W x r) (hb : Below W.heap.size W W') : PcS W' x r := by
  obtain ⟨A, c, h1, h2, h3⟩ := h
  exact ⟨A, c, h1, h2, h3.kept (kept_of_below hb _) (fun _ _ h => h)⟩
theorem over_set {W : World} {g t i : Nat} {cs : Array Value} {u : Value} (h : W.heap[g]? = some (Obj.cells cs t (0, 0))) : Over t W (W.setCell ⟨g, i, none⟩ u) := by
  refine ⟨by simp [World.setCell], fun k o ho hn => ?_⟩
  by_cases e : k = g
  · subst e
    rw [h] at ho
    cases ho
    exact absurd rfl (hn cs)
  · exact (far_cell W g i k u e).trans ho

/-- Pieces of one's own: their octets are typed. -/
theorem pieces_typed {ws : World} {base : Nat} {v : Value} {xs : List S29} (h : k29.R 29 ws base (fun _ => True) v xs) :
    ∃ rr : List (List Value), (rawK 4).R 29 ws base (fun _ => True) v rr ∧ All2 (PcS ws) xs rr := by
  obtain ⟨h0, inner, hown, hl, hr⟩ := h
  have hrl : ((List.range xs.length).map fun j => (inner.drop (j * 4)).take 4).length = xs.length := by simp
  have hget : ∀ (j : Nat) (r : List Value), ((List.range xs.length).map fun j => (inner.drop (j * 4)).take 4)[j]? = some r → j < xs.length ∧ r = (inner.drop (j * 4)).take 4 := by
    intro j r hj
    rw [List.getElem?_map] at hj
    by_cases hlt : j < xs.length
    · rw [List.getElem?_range hlt] at hj
      exact ⟨hlt, by simpa using hj.symm⟩
    · rw [List.getElem?_eq_none (by simpa using hlt)] at hj
      simp at hj
  have hM : ∀ j (hj : j < xs.length), ∃ v3, (inner.drop (j * 4)).take 4 = [.bool xs[j].f0, .bool xs[j].f1, .int .i64 xs[j].f2, v3] ∧ (Kd.int .u8).R 5 ws base (fun k => (fun x => True) k ∧ some k ≠ v.ownBlock) v3 xs[j].f3 := fun j hj => k29_openM (hr j _ (List.getElem?_eq_getElem hj))
  refine ⟨(List.range xs.length).map fun j => (inner.drop (j * 4)).take 4, ⟨h0, inner, by rw [hrl]; exact hown, by rw [hrl]; exact hl, fun j r hj => ?_⟩, hrl, fun j x r hx hj => ?_⟩
  · obtain ⟨hlt, rfl⟩ := hget j r hj
    obtain ⟨v3, e, hR⟩ := hM j hlt
    obtain ⟨A3, c3, rfl⟩ := Kd.R_slice hR
    refine ⟨rfl, by rw [e]; rfl, fun u hu => ?_⟩
    rw [e] at hu
    simp at hu
    rcases hu with rfl | rfl | rfl | rfl <;> rfl
  · obtain ⟨hlt, rfl⟩ := hget j r hj
    obtain ⟨v3, e, hR⟩ := hM j hlt
    have ex : xs[j] = x := by rw [List.getElem?_eq_getElem hlt] at hx; exact Option.some.inj hx
    rw [ex] at e hR
    obtain ⟨A3, c3, rfl⟩ := Kd.R_slice hR
    refine ⟨A3, c3, e, (Kd.R_reads' hR).2.1, Kd.F_mono (Kd.R_F (Kd.R_bound hR)) (fun k hk => ⟨hk.2.2.1, fun h => h, ?_⟩)⟩
    obtain ⟨q, hq, cs, hc⟩ := hk.2.2.2
    simp [Kd.int, Kd.scalar] at hq
    subst hq
    exact ⟨cs, hc⟩

/-- Lanes of pieces, while they grow. -/
structure Lanes (w : World) (base n : Nat) (go cap : Nat) (chs : List Ch) (rrs : Nat → List (List Value)) (LL : Nat → List S29) : Prop where
  out : slK.R 41 w base (fun _ => True) (.slice (some ⟨go, 0, none⟩) n cap) chs
  len : chs.length = n
  row : ∀ L, L < n → (rawK 4).R 29 w base (fun _ => True) (encS (chs.getD L no)) (rrs L)
  pcs : ∀ L, L < n → All2 (PcS w) (LL L) (rrs L)
  apart : ∀ L L', L < n → L' < n → L ≠ L' → ∀ k, (encS (chs.getD L no)).ownBlock = some k → (encS (chs.getD L' no)).ownBlock ≠ some k

section
variable {w w' : World} {base n go cap : Nat} {chs : List Ch} {rrs : Nat → List (List Value)} {LL : Nat → List S29}
theorem Lanes.below (h : Lanes w base n go cap chs rrs LL) (hb : Below w.heap.size w w') : Lanes w' base n go cap chs rrs LL :=
  ⟨Kd.R_below h.out hb, h.len, fun L hL => Kd.R_below (h.row L hL) hb, fun L hL => (h.pcs L hL).imp fun x y hxy => hxy.below hb, h.apart⟩
theorem Lanes.typed (h : Lanes w base n go cap chs rrs LL) : ∃ cs, w.heap[go]? = some (Obj.cells cs 41 (0, 0)) := own_type h.out go rfl
theorem Lanes.cell (h : Lanes w base n go cap chs rrs LL) {L : Nat} (hL : L < n) : w.cell? ⟨go, L, none⟩ = some (encS (chs.getD L no)) ∧ w.frozen? ⟨go, L, none⟩ = false := by
  have := Kd.R_celln no h.out (L : Int) (by omega) (by omega)
  simpa [rdOf] using this
/-- A piece goes behind a lane. -/
theorem Lanes.put {w9 : World} {L : Nat} {x : S29} {r : List Value} {c9 : Ch} (h : Lanes w base n go cap chs rrs LL) (hL : L < n) (hx : PcS w x r) (ho : (rawK 4).R 29 w9 base (fun _ => True) (encS c9) (rrs L ++ [r])) (hg : w.grownBy w9 (encS (chs.getD L no)).ownBlock) (hat : (encS c9).ownBlock = (encS (chs.getD L no)).ownBlock ∨ ∃ b, (encS c9).ownBlock = some b ∧ w.heap.size ≤ b) :
    Lanes (w9.setCell ⟨go, L, none⟩ (encS c9)) base n go cap (chs.set L c9) (fun q => if q = L then rrs L ++ [r] else rrs q) (fun q => if q = L then LL L ++ [x] else LL q) := by
  obtain ⟨cs, hcs⟩ := h.typed
  have ho9 : Over 29 w w9 := over_grown hg (fun k hk => own_type (h.row L hL) k hk.symm)
  have hcs9 := over_keeps ho9 (by decide) go cs hcs
  have hout9 := R_over rfl h.out ho9 (by decide)
  have hput := Kd.R_putn hout9 (L : Int) c9
  simp only [Int.toNat_natCast] at hput
  have hos : Over 41 w9 (w9.setCell ⟨go, L, none⟩ (encS c9)) := over_set hcs9
  have hgetL : (chs.set L c9).getD L no = c9 := by rw [List.getD_eq_getElem?_getD, List.getElem?_set_self (by rw [h.len]; exact hL)]; rfl
  have hgetN : ∀ q, q ≠ L → (chs.set L c9).getD q no = chs.getD q no := fun q hq => by rw [List.getD_eq_getElem?_getD, List.getElem?_set_ne (Ne.symm hq), ← List.getD_eq_getElem?_getD]
  refine ⟨hput, by rw [List.length_set]; exact h.len, fun q hq => ?_, fun q hq => ?_, fun q q' hq hq' hne k hk => ?_⟩
  · by_cases e : q = L
    · subst e
      rw [hgetL, if_pos rfl]
      exact R_over rfl ho hos (by decide)
    · rw [hgetN q e, if_neg e]
      refine R_over rfl ?_ hos (by decide)
      exact Kd.R_mono (Kd.R_grown (Kd.R_tight rfl (h.row q hq)) hg (fun k hk e2 => h.apart q L hq hL e k hk.symm e2.symm)) (fun _ _ => trivial)
  · by_cases e : q = L
    · subst e
      rw [if_pos rfl, if_pos rfl]
      exact (All2.snoc (h.pcs q hq) hx).imp fun a b hab => (hab.over ho9 (by decide)).over hos (by decide)
    · rw [if_neg e, if_neg e]
      exact (h.pcs q hq).imp fun a b hab => (hab.over ho9 (by decide)).over hos (by decide)
  · have old : ∀ q k, q < n → (encS (chs.getD q no)).ownBlock = some k → k < w.heap.size := fun q k hq hk => Kd.R_lt (h.row q hq) k hk
    by_cases e : q = L
    · subst e
      have hne' : q' ≠ q := fun e2 => hne e2.symm
      rw [hgetL] at hk
      rw [hgetN q' hne']
      intro hk'
      rcases hat with e2 | ⟨b, e2, hb⟩
      · rw [e2] at hk
        exact h.apart q q' hq hq' hne k hk hk'
      · rw [e2] at hk
        cases hk
        have := old q' k hq' hk'
        omega
    · rw [hgetN q e] at hk
      by_cases e' : q' = L
      · subst e'
        rw [hgetL]
        intro hk'
        rcases hat with e2 | ⟨b, e2, hb⟩
        · rw [e2] at hk'
          exact h.apart q q' hq hq' hne k hk hk'
        · rw [e2] at hk'
          cases hk'
          have := old q k hq hk
          omega
      · rw [hgetN q' e']
        exact h.apart q q' hq hq' hne k hk
end

theorem Lanes.over {t : Nat} {w w' : World} {base n go cap : Nat} {chs : List Ch} {rrs : Nat → List (List Value)} {LL : Nat → List S29} (h : Lanes w base n go cap chs rrs LL) (ho : Over t w w') (h1 : t ≠ 41) (h2 : t ≠ 29) (h3 : t ≠ 5) : Lanes w' base n go cap chs rrs LL :=
  ⟨R_over rfl h.out ho (Ne.symm h1), h.len, fun L hL => R_over rfl (h.row L hL) ho (Ne.symm h2), fun L hL => (h.pcs L hL).imp fun x y hxy => hxy.over ho h3, h.apart⟩
/-- A row of pieces, of one's own. -/
def PRow (W : World) (b : Nat) (v : Value) (xs : List S29) (rr : List (List Value)) : Prop := (rawK 4).R 29 W b (fun _ => True) v rr ∧ All2 (PcS W) xs rr
theorem PRow.below {W W' : World} {b : Nat} {v : Value} {xs : List S29} {rr : List (List Value)} (h : PRow W b v xs rr) (hb : Below W.heap.size W W') : PRow W' b v xs rr :=
  ⟨Kd.R_below h.1 hb, h.2.imp fun x y hxy => hxy.below hb⟩
theorem PRow.over {t : Nat} {W W' : World} {b : Nat} {v : Value} {xs : List S29} {rr : List (List Value)} (h : PRow W b v xs rr) (ho : Over t W W') (h1 : t ≠ 29) (h2 : t ≠ 5) : PRow W' b v xs rr :=
  ⟨R_over rfl h.1 ho (Ne.symm h1), h.2.imp fun x y hxy => hxy.over ho h2⟩
theorem PRow.grown {W W' : World} {b : Nat} {v : Value} {xs : List S29} {rr : List (List Value)} {row : Option Nat} (h : PRow W b v xs rr) (hg : W.grownBy W' row) (hr : ∀ k, row = some k → ∃ cs, W.heap[k]? = some (Obj.cells cs 29 (0, 0))) (hne : ∀ k, v.ownBlock = some k → row ≠ some k) : PRow W' b v xs rr :=
  ⟨Kd.R_mono (Kd.R_grown (Kd.R_tight rfl h.1) hg (fun k hk e => hne k hk.symm e.symm)) (fun _ _ => trivial), h.2.imp fun x y hxy => hxy.over (over_grown hg hr) (by decide)⟩
theorem PRow.at {W : World} {b N c : Nat} {A : Option Addr} {xs : List S29} {rr : List (List Value)} (h : PRow W b (.slice A N c) xs rr) (hN : xs.length = N) (j : Nat) (hj : j < N) :
    ∃ ad A3 c3, A = some ad ∧ W.cell? (ad.add (j * 4)) = some (.bool (xs.getD j z29).f0) ∧ W.cell? ⟨(ad.add (j * 4)).block, (ad.add (j * 4)).off + 1, none⟩ = some (.bool (xs.getD j z29).f1) ∧ W.cell? ⟨(ad.add (j * 4)).block, (ad.add (j * 4)).off + 2, none⟩ = some (.int .i64 (xs.getD j z29).f2) ∧ W.cell? ⟨(ad.add (j * 4)).block, (ad.add (j * 4)).off + 3, none⟩ = some (.slice A3 (xs.getD j z29).f3.length c3) ∧ PcS W (xs.getD j z29) [.bool (xs.getD j z29).f0, .bool (xs.getD j z29).f1, .int .i64 (xs.getD j z29).f2, .slice A3 (xs.getD j z29).f3.length c3] := by
  obtain ⟨ad, e, r, hr, hl, _, hc⟩ := raw_get (R_C h.1) j hj
  have hx : xs[j]? = some (xs.getD j z29) := by rw [List.getD_eq_getElem?_getD, List.getElem?_eq_getElem (by omega)]; rfl
  have hp := h.2.2 j _ r hx hr
  obtain ⟨A3, c3, rfl, l3, g3⟩ := hp
  exact ⟨ad, A3, c3, e, hc 0 _ rfl, by rw [← add_field _ _ 1 (by omega)]; exact hc 1 _ rfl, by rw [← add_field _ _ 2 (by omega)]; exact hc 2 _ rfl, by rw [← add_field _ _ 3 (by omega)]; exact hc 3 _ rfl, A3, c3, rfl, l3, g3⟩

end Go.Proofs.YtgopklnfdlnojaaDoor.Za
