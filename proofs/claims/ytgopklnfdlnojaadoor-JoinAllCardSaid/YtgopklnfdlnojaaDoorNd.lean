/- The document's example of a joiner (law24.speaks). -/
import Derived.Test.YtgopklnfdlnojaaDoorNc
namespace Go.Proofs.YtgopklnfdlnojaaDoor.Nd
open Go.RowKit Go.Proofs.YtgopklnfdlnojaaDoor.Ga Go.Proofs.YtgopklnfdlnojaaDoor.My Go.Proofs.YtgopklnfdlnojaaDoor.Gb Go.Proofs.YtgopklnfdlnojaaDoor.Gp Go.Proofs.YtgopklnfdlnojaaDoor.Ja Go.Proofs.YtgopklnfdlnojaaDoor.Jb Go.Proofs.YtgopklnfdlnojaaDoor.Jc Go.Proofs.YtgopklnfdlnojaaDoor.Jd Go.Proofs.YtgopklnfdlnojaaDoor.Je Go.Proofs.YtgopklnfdlnojaaDoor.Jf Go.Proofs.YtgopklnfdlnojaaDoor.Jg Go.Proofs.YtgopklnfdlnojaaDoor.Jh Go.Proofs.YtgopklnfdlnojaaDoor.Ji Go.Proofs.YtgopklnfdlnojaaDoor.Ix Go.Proofs.YtgopklnfdlnojaaDoor.Nb Go.Proofs.YtgopklnfdlnojaaDoor.Nc Go.Proofs.YtgopklnfdlnojaaDoorW.PrintWords Go.Proofs.YtgopklnfdlnojaaDoorW.PrintLast Go.Proofs.YtgopklnfdlnojaaDoorW.PrintMore
set_option linter.unusedVariables false
set_option linter.unusedSimpArgs false

abbrev J0 : Jn := newJ true 2 4 100
abbrev p1 : S29 := ⟨false, true, 1, [2]⟩
abbrev p2 : S29 := ⟨true, false, 0, [1]⟩
theorem mayJ_ok : mayJ 2 4 100 := by unfold mayJ; omega
theorem still0 : Still J0 0 := ⟨(newJ_ok mayJ_ok).1, (newJ_ok mayJ_ok).2, rfl, by decide⟩
theorem e1 : (feedJ J0 1 p1).2 = 0 ∧ (feedJ J0 1 p1).1.evs = [] ∧ (feedJ J0 1 p1).1.wait.length = 1 ∧ (feedJ J0 1 p1).1.nm = 4096 := ⟨by kernel_rfl, by kernel_rfl, by kernel_rfl, by kernel_rfl⟩
theorem e2 : (feedJ (rest (feedJ J0 1 p1).1) 0 p2).2 = 0 ∧ (feedJ (rest (feedJ J0 1 p1).1) 0 p2).1.evs = [⟨0, [1, 2], 0, 0⟩] := ⟨by kernel_rfl, by kernel_rfl⟩

theorem row_octets {W : World} {g : Nat} {xs : List Int} (h : W.heap[g]? = some (.cells (encs (Value.int .u8) xs).toArray 5 (0, 0))) (hc : xs.length ≤ 4096) : (Kd.int .u8).R 5 W g (fun _ => True) (.slice (some ⟨g, 0, none⟩) xs.length xs.length) xs :=
  Kd.R_of_own (enc := Value.int .u8) (h1 := fun _ => rfl) ⟨by simp [encs], .inr ⟨g, xs.length, _, rfl, Nat.le_refl _, h, Nat.le_refl _, by unfold maxLen; omega, by simp [encs], by rw [Nat.mul_one, List.take_of_length_le (by simp [encs])]⟩⟩ (fun _ _ => trivial)
theorem sl_octets {W : World} {g : Nat} {xs : List Int} {X : Nat → Prop} (h : W.heap[g]? = some (.cells (encs (Value.int .u8) xs).toArray 5 (0, 0))) (hc : xs.length ≤ 4096) (hX : ¬ X g) : Sl0 W X (some ⟨g, 0, none⟩) xs.length xs :=
  Kd.F_mono (Kd.R_F (Kd.R_tight rfl (row_octets h hc))) fun k hk => by
    have e : k = g := by simpa [Value.ownBlock] using hk
    subst e
    exact ⟨(Array.getElem?_eq_some_iff.1 h).1, hX⟩

/-- The cells of events handed out. -/
theorem ev_cells {W : World} {base : Nat} {ve : Value} {er : List (List Value)} (h : (rawK 4).R 84 W base (fun _ => True) ve er) (hne : er ≠ []) : ∃ ga cap, ve = .slice (some ⟨ga, 0, none⟩) er.length cap ∧ er.length ≤ cap ∧ ∀ j r, er[j]? = some r → r.length = 4 ∧ ∀ i u, r[i]? = some u → W.cell? ⟨ga, j * 4 + i, none⟩ = some u := by
  obtain ⟨inner, hown⟩ := Kd.R_own h
  have hpos : 0 < er.length := List.length_pos_iff.2 hne
  rcases hown.2 with ⟨_, hz⟩ | ⟨ga, cap, cur, rfl, _⟩
  · omega
  · obtain ⟨-, hc, hC⟩ := Kd.R_reads' h
    refine ⟨ga, cap, rfl, hc, fun j r hj => ?_⟩
    have hjl := (List.getElem?_eq_some_iff.1 hj).1
    obtain ⟨ad, e, r', hr', hl', _, hcell⟩ := raw_get hC j hjl
    cases e
    rw [hr'] at hj
    cases hj
    refine ⟨hl', fun i u hu => ?_⟩
    have := hcell i u hu
    by_cases h0 : j * 4 + i = 0
    · rw [h0] at this ⊢; exact this
    · simp only [Addr.add] at this
      rw [if_neg h0] at this
      simpa using this

theorem feed1 (w1 : World) (base g bm : Nat) (vl : Value) (h : JM w1 base g bm vl (.slice none 0 0) (.slice none 0 0) [] [] J0) (hb : base ≤ w1.heap.size) :
    Calls Tryd.prog 35 #[.pointer (some ⟨g, 0, none⟩), .int .i64 1, .agg #[.bool false, .bool true, .int .i64 1, .slice (some ⟨w1.heap.size, 0, none⟩) 1 1]] (w1.alloc (.cells #[.int .u8 2] 5)) fun e W' => ∃ A c vd wv, e = .returned (.tuple #[.slice A 0 c, .int .i64 0]) ∧
      JM W' base g bm vl vd (.slice none 0 0) wv [] (rest (feedJ J0 1 p1).1) ∧ Below base w1 W' := by
  have hba := below_alloc (Below.refl w1.heap.size w1) (.cells #[.int .u8 2] 5)
  have hn := new1 w1 (.cells #[.int .u8 2] 5)
  have hm := mayJ_ok
  obtain ⟨k1, k2, k3, k4⟩ := e1
  refine (feed_any _ base g bm vl (.slice none 0 0) [] J0 0 1 p1 (some ⟨w1.heap.size, 0, none⟩) 1 (jm_below h hba) still0 (by decide) (Nat.le_trans hb hba.size) (by decide) (by decide) (by decide) (sl_octets (xs := [2]) hn (by decide) (fun e => absurd (mut_lt h _ e) (Nat.lt_irrefl _)))).mono ?_
  rintro e W' ⟨vd, ve, wv, er, he, hJ, hR, hE, hk, hm, hb'⟩
  rw [k1] at he
  rw [k2] at hE
  obtain ⟨A, c, rfl⟩ := Kd.R_slice hR
  have hl : er.length = 0 := hE.1
  rw [hl] at he
  exact ⟨A, c, vd, wv, he, hJ, (hba.mono hb).trans hb'⟩
theorem feed2 (w1 : World) (base g bm : Nat) (vl vd : Value) (wv : List (Int × Value)) (h : JM w1 base g bm vl vd (.slice none 0 0) wv [] (rest (feedJ J0 1 p1).1)) (hb : base ≤ w1.heap.size) :
    Calls Tryd.prog 35 #[.pointer (some ⟨g, 0, none⟩), .int .i64 0, .agg #[.bool true, .bool false, .int .i64 0, .slice (some ⟨w1.heap.size, 0, none⟩) 1 1]] (w1.alloc (.cells #[.int .u8 1] 5)) fun e W' => ∃ ga c A2 c2, e = .returned (.tuple #[.slice (some ⟨ga, 0, none⟩) 1 c, .int .i64 0]) ∧ 1 ≤ c ∧
      W'.cell? ⟨ga, 0, none⟩ = some (.int .i64 0) ∧ W'.cell? ⟨ga, 1, none⟩ = some (.slice A2 2 c2) ∧ 2 ≤ c2 ∧ (Kd.int .u8).C W' A2 2 [1, 2] ∧ Below base w1 W' := by
  have hba := below_alloc (Below.refl w1.heap.size w1) (.cells #[.int .u8 1] 5)
  have hn := new1 w1 (.cells #[.int .u8 1] 5)
  obtain ⟨k1, k2, k3, k4⟩ := e1
  obtain ⟨j1, j2⟩ := e2
  have hst := (feed_still (link := 1) (p := p1) still0 (by decide)).1
  refine (feed_any _ base g bm vl vd wv _ _ 0 p2 (some ⟨w1.heap.size, 0, none⟩) 1 (jm_below h hba) hst (by decide) (Nat.le_trans hb hba.size) (by decide) (by decide) (by decide) (sl_octets (xs := [1]) hn (by decide) (fun e => absurd (mut_lt h _ e) (Nat.lt_irrefl _)))).mono ?_
  rintro e W' ⟨vd, ve, wv, er, he, hJ, hR, hE, hk, hm, hb'⟩
  rw [j1] at he
  rw [j2] at hE
  obtain ⟨r, er', rfl, ⟨A2, c2, rfl, hc2, hs2⟩, h3⟩ := all2_cons hE
  have hz : er' = [] := List.length_eq_zero_iff.1 h3.1
  subst hz
  obtain ⟨ga, cap, rfl, hcap, hcells⟩ := ev_cells hR (by simp)
  obtain ⟨-, hc⟩ := hcells 0 _ rfl
  exact ⟨ga, cap, A2, c2, he, hcap, hc 0 _ rfl, hc 1 _ rfl, hc2, Kd.F_now hs2, (hba.mono hb).trans hb'⟩

set_option maxHeartbeats 2000000 in
set_option maxRecDepth 100000 in
theorem speaks_any (W : World) (hS : Shapes W) : Calls Tryd.prog 27 #[] W fun e w' => e = .returned (.bool true) ∧ Below W.heap.size W w' := by
  have hnew := new_ok true 2 4 100 W hS (by unfold mayJ; omega)
  clear hS
  go_enter Tryd.func27, Tryd.ntmps27
  go_upto_region 5 with (first
    | (go_at_call 28; refine hnew.mono ?_; rintro e w1 ⟨g, bm, vl, rfl, hJ1, hb1⟩; have HB1 := Aside0.mk hb1; have HJ1 := Aside0.mk hJ1; clear hJ1 hb1)
    | (go_at_call 35; refine (feed1 w1 W.heap.size g bm vl HJ1.out HB1.out.size).mono ?_; rintro e w2 ⟨Aa, ca, vd2, wv2, rfl, hJ2, hb2⟩; have HB2 := Aside0.mk hb2; have HJ2 := Aside0.mk hJ2; clear hJ2 hb2))
  go_wp2_with (first
    | (go_at_call 35; refine (feed2 w2 W.heap.size g bm vl vd2 wv2 HJ2.out (Nat.le_trans HB1.out.size HB2.out.size)).mono ?_; rintro e w3 ⟨ga, cb, A2, c2, rfl, hcb, y0, y1, hc2, hC2, hb3⟩; have HB3 := Aside0.mk hb3; have HC2 := Aside0.mk hC2; have HCB := Aside0.mk (And.intro hcb hc2); clear hC2 hb3 hcb hc2))
  have hba := below_alloc (Below.refl w3.heap.size w3) (.cells #[.int .u8 1, .int .u8 2] 5)
  have hrow := row_octets (xs := [1, 2]) (new1 w3 (.cells #[.int .u8 1, .int .u8 2] 5)) (by decide)
  have HB4 := Aside0.mk hba
  have hC4 := Kd.C_below HC2.out hba
  have hC5 := (Kd.R_reads' hrow).2.2
  refine (marlineref01_Equal.calls 10 A2 c2 [1, 2] (some ⟨w3.heap.size, 0, none⟩) 2 [1, 2] true _ hC4 HCB.out.2 hC5 (by decide) (by decide +kernel)).mono ?_
  rintro e w5 ⟨rfl, hd5⟩
  have HD5 := Aside0.mk hd5
  clear hd5 hba hrow hC4 hC5
  go_wp2
  go_ret
  exact ⟨rfl, (HB1.out.trans (HB2.out.trans (HB3.out.trans ((below_step HB4.out HD5.out.below).mono (Nat.le_trans HB1.out.size (Nat.le_trans HB2.out.size HB3.out.size))))))⟩

end Go.Proofs.YtgopklnfdlnojaaDoor.Nd
