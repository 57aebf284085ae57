/- JoinAll in plain Lean: pieces that come by lanes, all of them; lanes to be read in memory. -/
import Derived.Test.YtgopklnfdlnojaaDoorZb
namespace Go.Proofs.YtgopklnfdlnojaaDoor.Zc
open Go.RowKit Go.Proofs.YtgopklnfdlnojaaDoor.Ga Go.Proofs.YtgopklnfdlnojaaDoor.Gb Go.Proofs.YtgopklnfdlnojaaDoor.Sa Go.Proofs.YtgopklnfdlnojaaDoor.Sb Go.Proofs.YtgopklnfdlnojaaDoor.Ja Go.Proofs.YtgopklnfdlnojaaDoor.Jb Go.Proofs.YtgopklnfdlnojaaDoor.Jc Go.Proofs.YtgopklnfdlnojaaDoor.Jd Go.Proofs.YtgopklnfdlnojaaDoor.Je Go.Proofs.YtgopklnfdlnojaaDoor.Jg Go.Proofs.YtgopklnfdlnojaaDoor.Jh Go.Proofs.YtgopklnfdlnojaaDoor.Nb Go.Proofs.YtgopklnfdlnojaaDoor.Nc Go.Proofs.YtgopklnfdlnojaaDoor.Xa Go.Proofs.YtgopklnfdlnojaaDoor.Xb Go.Proofs.YtgopklnfdlnojaaDoor.Xc Go.Proofs.YtgopklnfdlnojaaDoor.Ya
set_option linter.unusedVariables false
set_option linter.unusedSimpArgs false

/-- A lane's places. -/
def idx (df : Nat → Nat) (N L : Nat) : List Nat := (List.range N).filter fun k => df k == L
theorem idx_mem {df : Nat → Nat} {N L k : Nat} : k ∈ idx df N L ↔ k < N ∧ df k = L := by simp [idx]
theorem idx_sorted (df : Nat → Nat) (N L : Nat) : (idx df N L).Pairwise (· < ·) := List.Pairwise.filter _ List.pairwise_lt_range
/-- Which pieces have come, where rem are to come. -/
def AR (N : Nat) (df : Nat → Nat) (rem : Nat → List Nat) (k : Nat) : Bool := decide (k < N) && !(rem (df k)).contains k
def lastOf : List Nat → Int
  | [] => -1
  | a :: l => ((a :: l).getLast (by simp) : Nat)
theorem lastOf_snoc (l : List Nat) (k : Nat) : lastOf (l ++ [k]) = k := by
  cases l with
  | nil => rfl
  | cons a l =>
    have : (a :: (l ++ [k])).getLast (by simp) = k := by rw [List.getLast_cons (by simp)]; simp
    show (((a :: (l ++ [k])).getLast _ : Nat) : Int) = k
    rw [this]
theorem lastOf_lt {dn rm : List Nat} (h : (dn ++ rm).Pairwise (· < ·)) : ∀ k ∈ rm, lastOf dn < (k : Int) := by
  intro k hk
  cases dn with
  | nil => simp [lastOf]; omega
  | cons a l =>
    have := (List.pairwise_append.1 h).2.2 _ (List.getLast_mem (l := a :: l) (by simp)) k hk
    simp only [lastOf]
    omega
theorem lastOf_ge (dn : List Nat) : -1 ≤ lastOf dn := by
  cases dn with
  | nil => simp [lastOf]
  | cons a l => simp only [lastOf]; omega
theorem lastOf_mem {dn : List Nat} {M : Nat} (h : ∀ k ∈ dn, k < M) : lastOf dn < (M : Int) := by
  cases dn with
  | nil => simp [lastOf]; omega
  | cons a l =>
    have := h _ (List.getLast_mem (l := a :: l) (by simp))
    simp only [lastOf]
    omega
theorem sorted_len : ∀ (l : List Int) (lo hi : Int), l.Pairwise (· < ·) → (∀ x ∈ l, lo ≤ x ∧ x < hi) → lo ≤ hi → (l.length : Int) ≤ hi - lo
  | [], lo, hi, _, _, h => by simp; omega
  | x :: l, lo, hi, hs, hb, h => by
    obtain ⟨h1, h2⟩ := List.pairwise_cons.1 hs
    have hx := hb x (by simp)
    have := sorted_len l (x + 1) hi h2 (fun y hy => ⟨by have := h1 y hy; omega, (hb y (by simp [hy])).2⟩) (by omega)
    simp only [List.length_cons]
    omega

structure Al (nm : Int) (X : Nat → List Int) (np : Nat) (df : Nat → Nat) (S0 : Jn) (n t : Nat) (rem : Nat → List Nat) (pre : List Ev) (J : Jn) : Prop where
  inv : Inv True (fun k => decide (k < off X np)) (AR (off X np) df rem) (psI nm X np) S0 pre J
  still : Still J ((t : Int) * 16777216)
  nm : J.nm = nm
  room : J.room = 4096
  links : J.last.length = n
  lane : ∀ L, L < n → ∃ dn, idx df (off X np) L = dn ++ rem L ∧ J.last.getD L 0 = lastOf dn
  evs : pre.length ≤ 20000 * t

section
variable {nm : Int} {X : Nat → List Int} {np : Nat} {df : Nat → Nat} {S0 : Jn} {n t : Nat} {rem : Nat → List Nat} {pre : List Ev} {J : Jn}
theorem al_new (short : Bool) (n : Nat) (h1 : 1 ≤ n) (h2 : n ≤ 16) : Al (numbers short) X np df (newJ short n 4096 100) n 0 (idx df (off X np)) [] (newJ short n 4096 100) := by
  have hm : mayJ (n : Int) 4096 100 := by unfold mayJ; omega
  obtain ⟨o1, o2⟩ := newJ_ok (short := short) hm
  have hA : AR (off X np) df (idx df (off X np)) = fun _ => false := by
    funext k
    unfold AR
    by_cases hk : k < off X np
    · have : k ∈ idx df (off X np) (df k) := idx_mem.2 ⟨hk, rfl⟩
      simp [this]
    · simp [hk]
  refine ⟨by rw [hA]; exact inv_new _ _ _ _ _ _ _, ⟨by simpa using o1, o2, rfl, by simp [newJ]⟩, rfl, rfl, by simp [newJ], fun L hL => ⟨[], rfl, ?_⟩, Nat.le_refl _⟩
  simp [newJ, lastOf, List.getD_eq_getElem?_getD, hL]

theorem al_wait (h : Al nm X np df S0 n t rem pre J) : J.wait.length ≤ off X np := by
  have hs := h.still.ok.sort
  have h0 := h.still.ok.next0
  have hl : (J.wait.map (·.1)).Pairwise (· < ·) := List.Pairwise.map _ (fun _ _ h => h) hs
  have := sorted_len (J.wait.map (·.1)) 0 (off X np) hl (fun x hx => by
    obtain ⟨y, hy, rfl⟩ := List.mem_map.1 hx
    obtain ⟨k, k1, k2, k3⟩ := (h.inv.wait y).1 hy
    have hk : k < off X np := by
      simp [AR] at k1
      exact k1.1
    rw [k3]
    simp only
    omega) (by omega)
  rw [List.length_map] at this
  omega

theorem al_feed (h : Al nm X np df S0 n t rem pre J) (hoff : off X np ≤ 2000) (hnm : nm = 4096 ∨ nm = 16777216) (hdf : ∀ k, df k < n) (hps : ∀ k, k < off X np → (psI nm X np k).f2 = (k : Int) % nm ∧ (psI nm X np k).f3.length ≤ 5) {L k : Nat} {r : List Nat} (hL : L < n) (hr : rem L = k :: r) :
    (feedJ J L (psI nm X np k)).2 = 0 ∧ Al nm X np df S0 n (t + 1) (fun q => if q = L then r else rem q) (pre ++ (feedJ J L (psI nm X np k)).1.evs) (rest (feedJ J L (psI nm X np k)).1) := by
  obtain ⟨dn, hdn, hlast⟩ := h.lane L hL
  rw [hr] at hdn
  have hsort : (dn ++ k :: r).Pairwise (· < ·) := by rw [← hdn]; exact idx_sorted _ _ _
  have hkm : k ∈ idx df (off X np) L := by rw [hdn]; simp
  obtain ⟨hkN, hkL⟩ := idx_mem.1 hkm
  have hkr : k ∉ r := by
    intro hm
    have := (List.pairwise_cons.1 (List.pairwise_append.1 hsort).2.1).1 k hm
    omega
  have hLl : L < J.last.length := by rw [h.links]; exact hL
  have hAk : AR (off X np) df rem k = false := by simp [AR, hkL, hr]
  have hlt : J.last.getD L 0 < (k : Int) := by rw [hlast]; exact lastOf_lt hsort k (by simp)
  have hge : -1 ≤ J.last.getD L 0 := by rw [hlast]; exact lastOf_ge dn
  obtain ⟨hp2, hp3⟩ := hps k hkN
  have hA1 : AR (off X np) df (fun q => if q = L then r else rem q) = fun j => AR (off X np) df rem j || j == k := by
    funext j
    unfold AR
    by_cases hj : j = k
    · subst hj
      simp [hkN, hkL, hkr]
    · have e2 : (j == k) = false := by simpa using hj
      rw [e2, Bool.or_false]
      by_cases e : df j = L
      · rw [e]
        simp [hr, hj]
      · simp [e]
  have hlane' : ∀ q, q < n → ∃ dn', idx df (off X np) q = dn' ++ (if q = L then r else rem q) ∧ (J.last.set L (k : Int)).getD q 0 = lastOf dn' := by
    intro q hq
    by_cases e : q = L
    · subst e
      refine ⟨dn ++ [k], by rw [if_pos rfl, hdn]; simp, ?_⟩
      rw [lastOf_snoc, List.getD_eq_getElem?_getD, List.getElem?_set_self hLl]
      rfl
    · obtain ⟨dn', e1, e2⟩ := h.lane q hq
      refine ⟨dn', by rw [if_neg e]; exact e1, ?_⟩
      rw [List.getD_eq_getElem?_getD, List.getElem?_set_ne (Ne.symm e), ← List.getD_eq_getElem?_getD]
      exact e2
  have hmin : ∀ q, q < n → Lib.minOf (J.last.set L (k : Int)) ≤ (J.last.set L (k : Int)).getD q 0 := fun q hq => minOf_le (get_mem (by rw [List.length_set, h.links]; exact hq))
  have hw := al_wait h
  obtain ⟨q1, q2, q3⟩ := inv_feed h.inv h.still hLl (by simp [hkN]) hAk (by rw [h.nm]; exact hp2) hlt (by rw [h.nm]; omega) (by omega)
    (fun j hj hB => by
      have hjN : j < off X np := by simpa using hB
      have e := congrFun hA1 j
      rw [← e]
      unfold AR
      obtain ⟨dn', d1, d2⟩ := hlane' (df j) (hdf j)
      have hm := hmin (df j) (hdf j)
      rw [d2] at hm
      have hnot : j ∉ (if df j = L then r else rem (df j)) := by
        intro hmem
        have hs : (dn' ++ (if df j = L then r else rem (df j))).Pairwise (· < ·) := by rw [← d1]; exact idx_sorted _ _ _
        have := lastOf_lt hs j hmem
        omega
      simp [hjN]
      simpa using hnot)
    (fun _ j hj => by
      obtain ⟨dn', d1, d2⟩ := hlane' 0 (by omega)
      have hm := hmin 0 (by omega)
      rw [d2] at hm
      have : lastOf dn' < (off X np : Int) := lastOf_mem (fun a ha => (idx_mem.1 (show a ∈ idx df (off X np) 0 by rw [d1]; simp [ha])).1)
      simp
      omega) (by rw [h.room]; omega)
  obtain ⟨f1, f2, f3, f4, f5, f6, f7, f8, f9⟩ := feed_still (link := (L : Int)) (p := psI nm X np k) h.still (by omega)
  refine ⟨q1, ⟨by rw [hA1]; exact q2, still_mono f1 (by rw [h.nm]; omega), f2.trans h.nm, f3.trans h.room, f5.trans h.links, fun q hq => ?_, ?_⟩⟩
  · show ∃ dn', _ ∧ (feedJ J L (psI nm X np k)).1.last.getD q 0 = lastOf dn'
    rw [q3]
    exact hlane' q hq
  · rw [List.length_append]
    have h1 := h.evs
    have h2 : phi (laidJ J L (psI nm X np k)) ≤ 3 * (off X np + 1) + 2 := by
      obtain ⟨-, hw2, -⟩ := laid_ok (p := psI nm X np k) (link := (L : Int)) h.still.ok (by omega) (by omega) (by omega)
      unfold phi
      split <;> split <;> (try split) <;> omega
    omega

theorem wantI_all (X : Nat → List Int) (B : Nat → Bool) : ∀ i, (∀ k, k < off X i → B k = true) → wantI B X i = (List.range i).map X
  | 0, _ => rfl
  | i + 1, h => by
    have h1 := wantI_all X B i (fun k hk => h k (Nat.lt_of_lt_of_le hk (Nat.le_add_right _ _)))
    have hw : whole B X i = true := by
      unfold whole
      rw [List.all_eq_true]
      intro j hj
      exact h _ (by show off X i + j < off X i + nAt X i; have := List.mem_range.1 hj; omega)
    rw [wantI, h1, hw, List.range_succ, List.map_append]
    rfl
theorem al_end (h : Al nm X np df S0 n t rem pre J) (hrem : ∀ L, L < n → rem L = []) (hdf : ∀ k, df k < n) (hS : S0.mode = 0 ∧ S0.data = [] ∧ S0.evs = [] ∧ S0.most = 100) (hX : ∀ i, (X i).length ≤ 60) :
    J.wait = [] ∧ pre = ((List.range np).map X).map ev0 := by
  have hA : AR (off X np) df rem = fun k => decide (k < off X np) := by
    funext k
    unfold AR
    rw [hrem _ (hdf k)]
    simp
  have hI := h.inv
  rw [hA] at hI
  have hw : J.wait = [] := by
    cases hw : J.wait with
    | nil => rfl
    | cons p q =>
      exfalso
      have hst := h.still.step
      have h0 := h.still.ok.next0
      obtain ⟨k, k1, k2, k3⟩ := (hI.wait p).1 (by rw [hw]; simp)
      have hkN : k < off X np := by simpa using k1
      have hne : p.1 ≠ J.next := by
        intro e
        unfold stepJ at hst
        rw [hw] at hst
        simp only [if_pos e] at hst
        cases hst
      have hpk : p.1 = (k : Int) := by rw [k3]
      have hmem := (hI.wait ((J.next.toNat : Int), psI nm X np J.next.toNat)).2 ⟨J.next.toNat, by simp; omega, by omega, rfl⟩
      rw [hw] at hmem
      have hsort := h.still.ok.sort
      rw [hw] at hsort
      rcases List.mem_cons.1 hmem with e | e
      · have := congrArg Prod.fst e
        simp only at this
        omega
      · have := (List.pairwise_cons.1 hsort).1 _ e
        simp only at this
        omega
  have hev := h.still.evs
  have hend := evs_end hI hw (off X np) (fun k hk => by simp; omega)
  rw [hev, List.append_nil] at hend
  have hsc := (scan_all nm X (fun k => decide (k < off X np)) S0 np hS.1 hS.2.1 (fun i _ => by rw [hS.2.2.2]; have := hX i; omega) np (Nat.le_refl _)).2.2
  have hno : pre.filter (fun e => e.kind != 1) = pre := by
    rw [List.filter_eq_self]
    intro e he
    have := hI.loss e (List.mem_append_left _ he)
    by_cases h1 : e.kind = 1
    · exact absurd trivial (this h1).2
    · simpa using h1
  refine ⟨hw, ?_⟩
  rw [← hno, hend, hsc, hS.2.2.1, wantI_all X _ np (fun k hk => by simpa using hk)]
  rfl
end

end Go.Proofs.YtgopklnfdlnojaaDoor.Zc

namespace Go.Proofs.YtgopklnfdlnojaaDoor.Zd
open Go.RowKit Go.Proofs.YtgopklnfdlnojaaDoor.Ga Go.Proofs.YtgopklnfdlnojaaDoor.My Go.Proofs.YtgopklnfdlnojaaDoor.Gb Go.Proofs.YtgopklnfdlnojaaDoor.Gp Go.Proofs.YtgopklnfdlnojaaDoor.Sa Go.Proofs.YtgopklnfdlnojaaDoor.Sb Go.Proofs.YtgopklnfdlnojaaDoor.Ja Go.Proofs.YtgopklnfdlnojaaDoor.Jb Go.Proofs.YtgopklnfdlnojaaDoor.Jc Go.Proofs.YtgopklnfdlnojaaDoor.Jd Go.Proofs.YtgopklnfdlnojaaDoor.Je Go.Proofs.YtgopklnfdlnojaaDoor.Jf Go.Proofs.YtgopklnfdlnojaaDoor.Jg Go.Proofs.YtgopklnfdlnojaaDoor.Jh Go.Proofs.YtgopklnfdlnojaaDoor.Ji Go.Proofs.YtgopklnfdlnojaaDoor.Nb Go.Proofs.YtgopklnfdlnojaaDoor.Nc Go.Proofs.YtgopklnfdlnojaaDoor.Nd Go.Proofs.YtgopklnfdlnojaaDoor.Ne Go.Proofs.YtgopklnfdlnojaaDoor.Xa Go.Proofs.YtgopklnfdlnojaaDoor.Xb Go.Proofs.YtgopklnfdlnojaaDoor.Xc Go.Proofs.YtgopklnfdlnojaaDoor.Ya Go.Proofs.YtgopklnfdlnojaaDoor.Yb Go.Proofs.YtgopklnfdlnojaaDoor.Za Go.Proofs.YtgopklnfdlnojaaDoor.Zb Go.Proofs.YtgopklnfdlnojaaDoor.Zc Go.Proofs.YtgopklnfdlnojaaDoorW.PrintWords Go.Proofs.YtgopklnfdlnojaaDoorW.PrintLast Go.Proofs.YtgopklnfdlnojaaDoorW.PrintMore
set_option linter.unusedVariables false
set_option linter.unusedSimpArgs false

theorem firstLong : ∀ P : List (List Int), ∃ n0, n0 ≤ P.length ∧ (∀ i, i < n0 → (P.getD i []).length ≤ 60) ∧ (n0 = P.length ∨ 60 < (P.getD n0 []).length)
  | [] => ⟨0, Nat.le_refl _, fun i h => absurd h (Nat.not_lt_zero _), .inl rfl⟩
  | p :: P => by
    obtain ⟨n0, h1, h2, h3⟩ := firstLong P
    by_cases hp : p.length ≤ 60
    · refine ⟨n0 + 1, by simp; omega, fun i hi => ?_, ?_⟩
      · cases i with
        | zero => simpa using hp
        | succ i => simpa using h2 i (by omega)
      · rcases h3 with h3 | h3
        · left; simp [h3]
        · right; simpa using h3
    · exact ⟨0, Nat.zero_le _, fun i h => absurd h (Nat.not_lt_zero _), .inr (by simp; omega)⟩

/-- A lane to be read. -/
def LaneF (w : World) (b go : Nat) (ps : Nat → S29) (ch : Ch) (ks : List Nat) : Prop :=
  ∃ rr, Kd.F (rawK 4) w (fun k => k < b ∧ k ≠ go) ch.1 ch.2.1 rr ∧ All2 (PcK w (fun k => k < b ∧ k ≠ go)) (ks.map ps) rr ∧ ch.2.1 = ks.length ∧ ch.2.1 ≤ ch.2.2
theorem LaneF.step {w w' : World} {b go : Nat} {ps : Nat → S29} {ch : Ch} {ks : List Nat} (h : LaneF w b go ps ch ks) (hk : ∀ k, k < b → k ≠ go → k < w.heap.size → w'.heap[k]? = w.heap[k]?) : LaneF w' b go ps ch ks := by
  obtain ⟨rr, h1, h2, h3, h4⟩ := h
  exact ⟨rr, Kd.F_step h1 (fun k hk1 hl => hk k hk1.1 hk1.2 hl), h2.imp fun x y hxy => hxy.step (fun k hk1 hl => hk k hk1.1 hk1.2 hl), h3, h4⟩
theorem laneF_of {w : World} {base n go cap : Nat} {chs : List Ch} {rrs : Nat → List (List Value)} {ps : Nat → S29} {df : Nat → Nat} {N : Nat} (h : Lanes w base n go cap chs rrs (laneP ps df N)) (L : Nat) (hL : L < n) : LaneF w w.heap.size go ps (chs.getD L no) (idx df N L) := by
  obtain ⟨cs, hcs⟩ := h.typed
  have hr := h.row L hL
  have hp := h.pcs L hL
  obtain ⟨ch, hch⟩ : ∃ ch, chs.getD L no = ch := ⟨_, rfl⟩
  rw [hch] at hr ⊢
  obtain ⟨A, m, c⟩ := ch
  have hr' : (rawK 4).R 29 w base (fun _ => True) (.slice A m c) (rrs L) := hr
  have h3 := Kd.R_reads' hr'
  have hml : m = (idx df N L).length := by
    rw [h3.1, hp.1]
    unfold laneP idx
    rw [List.length_map]
  refine ⟨rrs L, ?_, ?_, hml, h3.2.1⟩
  · refine Kd.F_mono (Kd.R_F (Kd.R_tight rfl hr')) fun k hk => ⟨Kd.R_lt hr' k hk.symm, fun e => ?_⟩
    obtain ⟨cs', hc'⟩ := own_type hr' k hk
    rw [e, hcs] at hc'
    cases hc'
  · refine hp.imp fun x y ⟨A3, c3, q1, q2, q3⟩ => ⟨A3, c3, q1, q2, Kd.F_mono q3 fun k hk => ⟨hk.1, fun e => ?_⟩⟩
    obtain ⟨cs', hc'⟩ := hk.2.2
    rw [e, hcs] at hc'
    cases hc'
theorem R_elder {α : Type} {d : Kd α} {e b0 base : Nat} {w w' : World} {v : Value} {xs : List α} (hE : d.E = []) (h : d.R e w b0 (fun _ => True) v xs) (hb : Below base w w') (hlt : ∀ k, v.ownBlock = some k → k < base) : d.R e w' b0 (fun _ => True) v xs :=
  Kd.R_mono (Kd.R_step (Kd.R_tight hE h) (fun k hk _ => hb.block k (hlt k hk.symm))) (fun _ _ => trivial)

/-- What is still to come. -/
def tot (n : Nat) (rem : Nat → List Nat) : Nat := ((List.range n).map fun L => (rem L).length).sum
theorem tot_succ (n : Nat) (rem : Nat → List Nat) : tot (n + 1) rem = tot n rem + (rem n).length := by simp [tot, List.range_succ]
theorem tot_zero {n : Nat} {rem : Nat → List Nat} (h : tot n rem = 0) : ∀ L, L < n → rem L = [] := by
  induction n with
  | zero => intro L hL; omega
  | succ n ih =>
    intro L hL
    rw [tot_succ] at h
    by_cases e : L = n
    · subst e
      exact List.length_eq_zero_iff.1 (by omega)
    · exact ih (by omega) L (by omega)
theorem tot_pos {n : Nat} {rem : Nat → List Nat} (h : 0 < tot n rem) : ∃ L, L < n ∧ rem L ≠ [] := by
  apply Classical.byContradiction
  intro hc
  have : ∀ m, m ≤ n → tot m rem = 0 := by
    intro m
    induction m with
    | zero => intro _; rfl
    | succ m ih =>
      intro hm
      rw [tot_succ, ih (by omega)]
      cases hr : rem m with
      | nil => rfl
      | cons a l => exact absurd ⟨m, by omega, by rw [hr]; simp⟩ hc
  have := this n (Nat.le_refl _)
  omega
theorem tot_take {n L k : Nat} {r : List Nat} {rem : Nat → List Nat} (hL : L < n) (hr : rem L = k :: r) : tot n rem = tot n (fun q => if q = L then r else rem q) + 1 := by
  have key : ∀ m, m ≤ L → tot m (fun q => if q = L then r else rem q) = tot m rem := by
    intro m
    induction m with
    | zero => intro _; rfl
    | succ m ih => intro hm; rw [tot_succ, tot_succ, ih (by omega), if_neg (by omega)]
  have key2 : ∀ m, L < m → tot m rem = tot m (fun q => if q = L then r else rem q) + 1 := by
    intro m
    induction m with
    | zero => intro h; omega
    | succ m ih =>
      intro hm
      rw [tot_succ, tot_succ]
      by_cases e : m = L
      · subst e
        rw [key m (Nat.le_refl _), hr, if_pos rfl]
        simp
        omega
      · rw [ih (by omega), if_neg e]
        omega
  exact key2 n hL
theorem tot_le {n N : Nat} {df : Nat → Nat} : tot n (idx df N) ≤ n * N := by
  induction n with
  | zero => simp [tot]
  | succ n ih =>
    rw [tot_succ, Nat.succ_mul]
    have : (idx df N n).length ≤ N := by
      unfold idx
      exact Nat.le_trans (List.length_filter_le _ _) (by simp)
    omega

theorem off_split (X : Nat → List Int) : ∀ np k, k < off X np → ∃ i j, i < np ∧ j < nAt X i ∧ k = off X i + j
  | 0, k, h => by simp [off] at h
  | np + 1, k, h => by
    by_cases hk : k < off X np
    · obtain ⟨i, j, h1, h2, h3⟩ := off_split X np k hk
      exact ⟨i, j, by omega, h2, h3⟩
    · have e : off X (np + 1) = off X np + nAt X np := rfl
      exact ⟨np, k - off X np, by omega, by omega, by omega⟩
theorem ps_ok (nm : Int) (X : Nat → List Int) (np k : Nat) (h : k < off X np) : (psI nm X np k).f2 = (k : Int) % nm ∧ (psI nm X np k).f3.length ≤ 5 := by
  obtain ⟨i, j, h1, h2, rfl⟩ := off_split X np k h
  exact ⟨psI_num nm X np i j h1 h2, psI_short nm X np i j h1 h2⟩
theorem raw_tail {W : World} {ad : Addr} {m : Nat} {rr : List (List Value)} (h : (rawK 4).C W (some ad) m rr) (hm : 0 < m) : (rawK 4).C W (some (ad.add 4)) (m - 1) rr.tail := by
  obtain ⟨h1, h2, h3⟩ := h
  refine ⟨by rw [List.length_tail, h1], by omega, fun hp => ?_⟩
  obtain ⟨ad', e, hc⟩ := h3 hm
  cases e
  refine ⟨ad.add 4, rfl, fun j p hj => ?_⟩
  rw [List.getElem?_tail] at hj
  obtain ⟨c, q1, q2, q3⟩ := hc (j + 1) p hj
  refine ⟨c, q1, q2, fun i u hu => ?_⟩
  have := q3 i u hu
  rw [Go.Deep.add_add]
  have e : 4 + (j * (rawK 4).sz + i) = (j + 1) * (rawK 4).sz + i := by show 4 + (j * 4 + i) = (j + 1) * 4 + i; omega
  rw [e]
  exact this
theorem F_none {W : World} {ok : Nat → Prop} {A : Option Addr} : Kd.F (rawK 4) W ok A 0 [] := fun W' _ => ⟨rfl, by decide, fun h => absurd h (Nat.lt_irrefl 0)⟩
/-- The front piece of a lane is taken. -/
theorem laneF_tail {w : World} {b go : Nat} {ps : Nat → S29} {ad : Addr} {m c : Nat} {rr : List (List Value)} {kk : Nat} {r : List Nat} (hF : Kd.F (rawK 4) w (fun k => k < b ∧ k ≠ go) (some ad) m rr) (hP : All2 (PcK w (fun k => k < b ∧ k ≠ go)) ((kk :: r).map ps) rr) (hm : m = (kk :: r).length) (hmc : m ≤ c) :
    LaneF w b go ps (some ⟨ad.block, ad.off + 4, none⟩, m - 1, c - 1) r ∧ (c = 1 → LaneF w b go ps (some ad, m - 1, 0) r) := by
  obtain ⟨y, ys, rfl, hy, hys⟩ := all2_cons hP
  have hmr : m - 1 = r.length := by rw [hm]; simp
  have hadd : ad.add 4 = ⟨ad.block, ad.off + 4, none⟩ := by
    simp [Addr.add]
  constructor
  · refine ⟨ys, ?_, hys, hmr, by show m - 1 ≤ c - 1; omega⟩
    have := Kd.F_imp hF (fun W' h => raw_tail h (by rw [hm]; simp))
    rw [hadd] at this
    exact this
  · intro hc
    have hr : r = [] := List.length_eq_zero_iff.1 (by omega)
    have hz : ys = [] := List.length_eq_zero_iff.1 (by rw [hys.1, hr]; rfl)
    subst hr
    subst hz
    have hm1 : m - 1 = 0 := hmr
    refine ⟨[], ?_, hys, hm1, by show m - 1 ≤ 0; omega⟩
    show Kd.F (rawK 4) w _ (some ad) (m - 1) []
    rw [hm1]
    exact F_none
theorem Mem.over {W wr w' : World} {base g bm : Nat} {vl vd v14 v15 : Value} {wv : List (Int × Value)} {J : Jn} {pre : List Ev} {Ws : List (List Int)} {t : Nat} (h : Mem W wr base g bm vl vd v14 v15 wv J pre Ws) (ho : Over t wr w') (h1 : t ≠ 102) (h2 : t ≠ 3) (h3 : t ≠ 5) (h4 : t ≠ 84) (h5 : t ≠ 22) (hb : Below W.heap.size W w') : Mem W w' base g bm vl vd v14 v15 wv J pre Ws := by
  obtain ⟨gr, g1, g2⟩ := h.got
  obtain ⟨rr, r1, r2⟩ := h.want
  exact ⟨JM_over h.jm ho h1 h2 h3, ⟨gr, R_over rfl g1 ho (Ne.symm h4), g2.imp fun x y ⟨A, c, q1, q2, q3⟩ => ⟨A, c, q1, q2, Sl_over q3 ho h3⟩⟩, ⟨rr, R_over rfl r1 ho (Ne.symm h5), r2⟩, hb, h.b0, Nat.le_trans h.b1 ho.1⟩

end Go.Proofs.YtgopklnfdlnojaaDoor.Zd
