/- The law JoinPlays, walked: it answers true. -/
import Derived.Test.YtgopklnfdlnojaaDoorPj6
import Derived.Test.YtgopklnfdlnojaaDoorPj2
import Derived.Test.YtgopklnfdlnojaaDoorPj5
import Derived.Test.YtgopklnfdlnojaaDoorPj7
import Derived.Test.YtgopklnfdlnojaaDoorRows
import Derived.Test.YtgopklnfdlnojaaDoorPj1
import Derived.ProofKit
import Derived.LaidMore
import Derived.OpenShut
namespace Go.Proofs.YtgopklnfdlnojaaDoor.Lh
open Go.RowKit Go.Proofs.YtgopklnfdlnojaaDoor.Lz Go.Proofs.YtgopklnfdlnojaaDoor.La Go.Proofs.YtgopklnfdlnojaaDoor.Lb Go.Proofs.YtgopklnfdlnojaaDoor.Ga Go.Proofs.YtgopklnfdlnojaaDoor.My Go.Proofs.YtgopklnfdlnojaaDoor.Gb Go.Proofs.YtgopklnfdlnojaaDoor.Gp Go.Proofs.YtgopklnfdlnojaaDoor.Ja Go.Proofs.YtgopklnfdlnojaaDoor.Jb Go.Proofs.YtgopklnfdlnojaaDoor.Jc Go.Proofs.YtgopklnfdlnojaaDoor.Je Go.Proofs.YtgopklnfdlnojaaDoor.Ka Go.Proofs.YtgopklnfdlnojaaDoorW.PrintWords Go.Proofs.YtgopklnfdlnojaaDoorW.PrintLast Go.Proofs.YtgopklnfdlnojaaDoorW.PrintMore Go.Proofs.YtgopklnfdlnojaaDoor.Lc Go.Proofs.YtgopklnfdlnojaaDoor.Nb Go.Proofs.YtgopklnfdlnojaaDoor.Yb
set_option linter.unusedVariables false
set_option linter.unusedSimpArgs false

theorem w64 (i : Nat) (h : i ≤ 1000000000) : wrap64 ((i : Int) + 1) = ((i + 1 : Nat) : Int) := by
  unfold wrap64
  omega
/-! A new joiner. -/
theorem new_l0 (links : Nat) (hl : links ≤ 1000) (b : Bool) (room most : Int) : ∀ (m i : Nat), i + m = links → ∀ k, m < k →
    marlineref24_New.l0 k (links : Int) (i : Int) b room most (List.replicate i (-1)) 0 0 = some (b, room, most, List.replicate links (-1), [], 0, 0, [], [], 0) := by
  intro m
  induction m with
  | zero =>
    intro i hi k hk
    obtain ⟨k, rfl⟩ : ∃ k', k = k' + 1 := ⟨k - 1, by omega⟩
    rw [marlineref24_New.l0, if_neg (by omega)]
    rw [show i = links by omega]
  | succ m ih =>
    intro i hi k hk
    obtain ⟨k, rfl⟩ : ∃ k', k = k' + 1 := ⟨k - 1, by omega⟩
    rw [marlineref24_New.l0, if_pos (by omega), if_pos (by simp; omega), w64 i (by omega)]
    have e : List.replicate i (-1 : Int) ++ [-1] = List.replicate (i + 1) (-1) := by rw [List.replicate_succ']
    rw [e]
    exact ih (i + 1) (by omega) k (by omega)
theorem new_f (links room most : Int) (h : mayJ links room most) : ∃ k, marlineref24_New.f k true links room most = some (true, room, most, List.replicate links.toNat (-1), [], 0, 0, [], [], 0) := by
  obtain ⟨h1, h2, h3, h4, h5, h6⟩ := h
  obtain ⟨n, rfl⟩ := Int.eq_ofNat_of_zero_le (show 0 ≤ links by omega)
  refine ⟨n + 2, ?_⟩
  unfold marlineref24_New.f
  rw [if_neg (by omega), if_neg (by omega), if_neg (by omega), if_neg (by omega), if_neg (by omega)]
  have e : decide (most > 1048576) = false := decide_eq_false (by omega)
  rw [e, marlineref24_New.j0, if_neg (by decide)]
  have := new_l0 n (by omega) true room most n 0 (by omega) (n + 1) (by omega)
  simpa using this
theorem new_f_bad (links room most : Int) (h : ¬ mayJ links room most) : marlineref24_New.f 1 true links room most = some (false, 0, 0, [], [], 0, 0, [], [], 1) := by
  unfold marlineref24_New.f
  unfold mayJ at h
  have e : marlineref24_New.j0 1 true links room most true = some (false, 0, 0, [], [], 0, 0, [], [], 1) := by rw [marlineref24_New.j0, if_pos rfl]
  repeat' split
  all_goals first
    | exact e
    | skip
  have e2 : decide (most > 1048576) = true := decide_eq_true (by omega)
  rw [e2]
  exact e

theorem V_empty {α : Type} (d : Kd α) (e : Nat) (W : World) (base : Nat) (ok : Nat → Prop) (A : Option Addr) (c : Nat) : Kd.V d e W base ok (.slice A 0 c) [] :=
  ⟨A, c, rfl, Nat.zero_le _, fun _ _ => ⟨rfl, by simp, fun h => absurd h (Nat.lt_irrefl 0)⟩⟩
theorem R_at {α : Type} {d : Kd α} {e base : Nat} {W : World} {ok : Nat → Prop} {v : Value} {xs : List α} {n : Nat} (h : d.R e W base ok v xs) (hn : xs.length = n) : ∃ A c, v = .slice A n c := by
  obtain ⟨A, c, rfl⟩ := Kd.R_slice h
  exact ⟨A, c, by rw [hn]⟩

/-- The document's joiner when it is new. -/
theorem new_doc (links room most : Int) (W : World) (P : Nat → Prop) (hP : ∀ k, W.heap.size ≤ k → P k) (h : mayJ links room most) :
    Calls Tryd.prog 29 #[.bool true, .int .i64 links, .int .i64 room, .int .i64 most] W fun e W' => ∃ vl vw vd vt, e = .returned (.tuple #[dagg (newJ true links room most) vl vw vd vt, .int .i64 0]) ∧
      DV W' W.heap.size P vl vw vd vt [] (newJ true links room most) ∧ Below W.heap.size W W' := by
  obtain ⟨k, hf⟩ := new_f links room most h
  refine (marlineref24_New.calls k true links room most _ _ _ _ _ _ _ _ _ _ W hf).mono ?_
  rintro e W' ⟨v3, v4, v7, v8, rfl, hR3, hS4, hR7, hS8, hb⟩
  obtain ⟨A4, c4, rfl⟩ := R_at (Kd.S_R hS4) (n := 0) rfl
  obtain ⟨A7, c7, rfl⟩ := R_at hR7 (n := 0) rfl
  have hN8 := Kd.S_N hS8
  refine ⟨v3, _, _, v8, rfl, ⟨List.Perm.refl _, rfl, ?_, V_empty _ _ _ _ _ _ _, V_empty _ _ _ _ _ _ _, ?_⟩, hb⟩
  · obtain ⟨A, c, rfl⟩ := Kd.R_slice hR3
    obtain ⟨h1, h2, h3⟩ := Kd.R_reads' hR3
    refine Kd.V_mk h2 (Kd.F_mono (Kd.R_F (Kd.R_bound hR3)) (fun k hk => ⟨hP k hk.2.1, fun e => ?_⟩))
    obtain ⟨q, hq, cells, hc⟩ := hk.2.2.2
    obtain ⟨cells', hc'⟩ := Kd.N_typed hN8 k e.symm
    rw [hc] at hc'
    simp [Kd.int, Kd.scalar] at hq
    subst hq
    simp at hc'
  · obtain ⟨h1, rows, h2, h3, h4⟩ := hN8
    refine ⟨fun k hk => hP k (Kd.N_base (Kd.S_N hS8) k hk), rows, h2, h3, fun j x c hx hc => ?_⟩
    have hx' : ([] : List S106)[j]? = some x := hx
    simp at hx'
/-- What may not be asked. -/
theorem new_doc_bad (links room most : Int) (W : World) (h : ¬ mayJ links room most) :
    Calls Tryd.prog 29 #[.bool true, .int .i64 links, .int .i64 room, .int .i64 most] W fun e W' => ∃ A3 c3 A4 c4 A7 c7 A8 c8, e = .returned (.tuple #[.agg #[.bool false, .int .i64 0, .int .i64 0, .slice A3 0 c3, .slice A4 0 c4, .int .i64 0, .int .i64 0, .slice A7 0 c7, .slice A8 0 c8], .int .i64 1]) ∧ Below W.heap.size W W' := by
  refine (marlineref24_New.calls 1 true links room most _ _ _ _ _ _ _ _ _ _ W (new_f_bad links room most h)).mono ?_
  rintro e W' ⟨v3, v4, v7, v8, rfl, hR3, hS4, hR7, hS8, hb⟩
  obtain ⟨A3, c3, rfl⟩ := R_at hR3 (n := 0) rfl
  obtain ⟨A4, c4, rfl⟩ := R_at (Kd.S_R hS4) (n := 0) rfl
  obtain ⟨A7, c7, rfl⟩ := R_at hR7 (n := 0) rfl
  obtain ⟨A8, c8, rfl⟩ := R_at (Kd.S_R hS8) (n := 0) rfl
  exact ⟨_, _, _, _, _, _, _, _, rfl, hb⟩

/-! What was told. -/
def T84 (e : Ev) : S84 := ⟨e.kind, e.data, e.from_, e.many⟩
theorem rd84 {xs : List S84} {i : Nat} {x : S84} (h : xs[i]? = some x) : rd_T84 xs (i : Int) = x := by simp [rd_T84, List.getD_eq_getElem?_getD, h]
theorem rd106 {xs : List S106} {i : Nat} {x : S106} (h : xs[i]? = some x) : rd_T106 xs (i : Int) = x := by simp [rd_T106, List.getD_eq_getElem?_getD, h]
theorem To_l0 (evs : List Ev) (hl : evs.length ≤ 100000000) : ∀ (m i : Nat), i + m = evs.length → ∀ k, m < k →
    marlinelaw24_To.l0 k ((evs.take i).map T106) (evs.map T84) (evs.length : Int) (i : Int) = some (evs.map T106) := by
  intro m
  induction m with
  | zero =>
    intro i hi k hk
    obtain ⟨k, rfl⟩ : ∃ k', k = k' + 1 := ⟨k - 1, by omega⟩
    rw [marlinelaw24_To.l0, if_neg (by omega), List.take_of_length_le (by omega)]
  | succ m ih =>
    intro i hi k hk
    obtain ⟨k, rfl⟩ : ∃ k', k = k' + 1 := ⟨k - 1, by omega⟩
    have hx : evs[i]? = some (evs[i]'(by omega)) := List.getElem?_eq_getElem _
    rw [marlinelaw24_To.l0, if_pos (by omega), if_pos (by omega), if_pos (by simp; omega), if_pos (by simp; omega), w64 i (by omega), rd84 (x := T84 (evs[i]'(by omega))) (by simp [hx])]
    have e : (evs.take i).map T106 ++ [T106 (evs[i]'(by omega))] = (evs.take (i + 1)).map T106 := by rw [List.take_add_one, hx, List.map_append]; rfl
    have := ih (i + 1) (by omega) k (by omega)
    rw [← e] at this
    exact this
theorem To_f (evs : List Ev) (hl : evs.length ≤ 100000000) : marlinelaw24_To.f (evs.length + 1) (evs.map T84) = some (evs.map T106) := by
  have := To_l0 evs hl evs.length 0 (by omega) (evs.length + 1) (by omega)
  unfold marlinelaw24_To.f
  rw [List.length_map]
  exact this
theorem Same_l0 (xs : List S106) (hl : xs.length ≤ 100000000) : ∀ (m i : Nat), i + m = xs.length → ∀ k, m < k → marlineref24_Same.l0 k xs xs (i : Int) = some true := by
  intro m
  induction m with
  | zero =>
    intro i hi k hk
    obtain ⟨k, rfl⟩ : ∃ k', k = k' + 1 := ⟨k - 1, by omega⟩
    rw [marlineref24_Same.l0, if_neg (by omega)]
  | succ m ih =>
    intro i hi k hk
    obtain ⟨k, rfl⟩ : ∃ k', k = k' + 1 := ⟨k - 1, by omega⟩
    rw [marlineref24_Same.l0, w64 i (by omega)]
    have hi2 := ih (i + 1) (by omega) k (by omega)
    rw [hi2]
    have h1 : (i : Int) < (xs.length : Int) := by omega
    have h2 : (0 : Int) ≤ (i : Int) := by omega
    simp [h1, h2]
theorem Same_f (xs : List S106) (hl : xs.length ≤ 100000000) : marlineref24_Same.f (xs.length + 1) xs xs = some true := by
  unfold marlineref24_Same.f
  rw [if_pos rfl]
  exact Same_l0 xs hl xs.length 0 (by omega) _ (by omega)
theorem heap84 : Kd.Heap k84 := Kd.heap_iso _ (Kd.heap_pair (Kd.heap_int .i64) (Kd.heap_pair (Kd.heap_slice 5 (Kd.heap_int .u8)) (Kd.heap_pair (Kd.heap_int .i64) (Kd.heap_int .i64))))
theorem ev_C {W : World} {base : Nat} {X : Nat → Prop} {v : Value} {T : List Ev} {gT : List (List Value)} (h : (rawK 4).R 84 W base (fun _ => True) v gT) (h2 : All2 (EvOK W X) T gT) :
    ∃ A c, v = .slice A (T.map T84).length c ∧ (T.map T84).length ≤ c ∧ Kd.C k84 W A (T.map T84).length (T.map T84) := by
  obtain ⟨A, c, rfl⟩ := Kd.R_slice h
  obtain ⟨h3, h4, h5⟩ := Kd.R_reads' h
  have hl : gT.length = (T.map T84).length := by rw [h2.1, List.length_map]
  rw [hl] at h4 h5 ⊢
  refine ⟨A, c, rfl, h4, of_raw (d := k84) h5 ?_⟩
  refine ⟨by rw [hl], fun j x r hx hr => ?_⟩
  obtain ⟨e, he, rfl⟩ : ∃ e, T[j]? = some e ∧ T84 e = x := by simpa using hx
  obtain ⟨A3, c3, rfl, l3, g3⟩ := h2.2 j e r he hr
  exact k84_mk W (T84 e) l3 (Kd.F_now g3)
/-- What the program tells, as the document has it. -/
theorem to_doc {W : World} {base : Nat} {X : Nat → Prop} {v : Value} {T : List Ev} {gT : List (List Value)} (h : (rawK 4).R 84 W base (fun _ => True) v gT) (h2 : All2 (EvOK W X) T gT) (hl : T.length ≤ 100000) :
    Calls Tryd.prog 32 #[v] W fun e W' => ∃ A n c, e = .returned (.slice A n c) ∧ n = (T.map T106).length ∧ n ≤ c ∧ Kd.C k106 W' A n (T.map T106) ∧ Below W.heap.size W W' := by
  obtain ⟨A, c, rfl, hc, hC⟩ := ev_C h h2
  have hV : Kd.V k84 84 W W.heap.size (fun k => k < W.heap.size) (.slice A (T.map T84).length c) (T.map T84) := Kd.V_mk hc (Kd.C_F heap84 hC)
  refine (marlinelaw24_To.calls _ (fun k => k < W.heap.size) A c (T.map T84) _ W hV (To_f T (by omega))).mono ?_
  rintro e W' ⟨v0, rfl, hN, hb⟩
  obtain ⟨A0, c0, rfl⟩ := Kd.N_slice hN
  exact ⟨A0, _, c0, rfl, rfl, (Kd.N_reads' hN).2.1, (Kd.N_reads' hN).2.2, hb⟩
theorem same_doc {W : World} {A B : Option Addr} {n m c d : Nat} {xs : List S106} (hn : n = xs.length) (hm : m = xs.length) (h1 : Kd.C k106 W A n xs) (h2 : n ≤ c) (h3 : Kd.C k106 W B m xs) (h4 : m ≤ d) (hl : xs.length ≤ 100000) :
    Calls Tryd.prog 31 #[.slice A n c, .slice B m d] W fun e W' => e = .returned (.bool true) ∧ Below W.heap.size W W' := by
  subst hn
  subst hm
  refine (marlineref24_Same.calls _ A c xs B d xs true W h1 h2 h3 h4 (Same_f xs (by omega))).mono ?_
  rintro e W' ⟨rfl, hd⟩
  exact ⟨rfl, hd.below⟩
end Go.Proofs.YtgopklnfdlnojaaDoor.Lh
namespace Go.Proofs.YtgopklnfdlnojaaDoor.Li
open Go.RowKit Go.Proofs.YtgopklnfdlnojaaDoor.Lz Go.Proofs.YtgopklnfdlnojaaDoor.La Go.Proofs.YtgopklnfdlnojaaDoor.Lb Go.Proofs.YtgopklnfdlnojaaDoor.Lc Go.Proofs.YtgopklnfdlnojaaDoor.Lg Go.Proofs.YtgopklnfdlnojaaDoor.Lh Go.Proofs.YtgopklnfdlnojaaDoor.Ga Go.Proofs.YtgopklnfdlnojaaDoor.My Go.Proofs.YtgopklnfdlnojaaDoor.Gb Go.Proofs.YtgopklnfdlnojaaDoor.Gp Go.Proofs.YtgopklnfdlnojaaDoor.Ja Go.Proofs.YtgopklnfdlnojaaDoor.Jb Go.Proofs.YtgopklnfdlnojaaDoor.Jc Go.Proofs.YtgopklnfdlnojaaDoor.Jd Go.Proofs.YtgopklnfdlnojaaDoor.Je Go.Proofs.YtgopklnfdlnojaaDoor.Jf Go.Proofs.YtgopklnfdlnojaaDoor.Jg Go.Proofs.YtgopklnfdlnojaaDoor.Jh Go.Proofs.YtgopklnfdlnojaaDoor.Ji Go.Proofs.YtgopklnfdlnojaaDoor.Ka Go.Proofs.YtgopklnfdlnojaaDoor.Nb Go.Proofs.YtgopklnfdlnojaaDoor.Nc Go.Proofs.YtgopklnfdlnojaaDoor.Nd Go.Proofs.YtgopklnfdlnojaaDoor.Ne Go.Proofs.YtgopklnfdlnojaaDoor.Yb Go.Proofs.YtgopklnfdlnojaaDoorW.PrintWords Go.Proofs.YtgopklnfdlnojaaDoorW.PrintLast Go.Proofs.YtgopklnfdlnojaaDoorW.PrintMore
set_option linter.unusedVariables false
set_option linter.unusedSimpArgs false

/-- What the document's joiner reads: nothing that the program's writes, and not its own cells. -/
def PD (g bm gd : Nat) (vl vd : Value) (k : Nat) : Prop := ¬ Mut g bm vl vd (.slice none 0 0) k ∧ k ≠ gd
section
variable {W W' : World} {b1 g bm gd : Nat} {vl vd vd' l2 w2 d2 t2 l3 w3 d3 t3 : Value} {wv wv' : List (Int × Value)} {J J' Jd Jd' : Jn} {ws ws' : List (Int × S29)}
theorem PD.new (h : JM W b1 g bm vl vd (.slice none 0 0) wv [] J) (hc : W.heap[gd]? = some (.cells (dcs Jd l2 w2 d2 t2) 63 (0, 0))) (k : Nat) (hk : W.heap.size ≤ k) : PD g bm gd vl vd k :=
  ⟨fun e => by have := mut_lt h k e; omega, fun e => by have := blk_lt hc; omega⟩
/-- The document has turned its joiner, and lays it where it was. -/
theorem doc_store (h : JM W b1 g bm vl vd (.slice none 0 0) wv [] J) (hc : W.heap[gd]? = some (.cells (dcs Jd l2 w2 d2 t2) 63 (0, 0))) (hgd : b1 ≤ gd) (hb1 : b1 ≤ W.heap.size) (hb : Below W.heap.size W W') (hd : DV W' b1 (PD g bm gd vl vd) l3 w3 d3 t3 ws' Jd') {X : World}
    (hX : X = (((((((((W'.setCell ⟨gd, 0, none⟩ (.bool true)).setCell ⟨gd, 1, none⟩ (.int .i64 Jd'.room)).setCell ⟨gd, 2, none⟩ (.int .i64 Jd'.most)).setCell ⟨gd, 3, none⟩ l3).setCell ⟨gd, 4, none⟩ w3).setCell ⟨gd, 5, none⟩ (.int .i64 Jd'.next)).setCell ⟨gd, 6, none⟩ (.int .i64 Jd'.mode)).setCell ⟨gd, 7, none⟩ d3).setCell ⟨gd, 8, none⟩ t3)) :
    JM X b1 g bm vl vd (.slice none 0 0) wv [] J ∧ DV X b1 (PD g bm gd vl vd) l3 w3 d3 t3 ws' Jd' ∧ X.heap[gd]? = some (.cells (dcs Jd' l3 w3 d3 t3) 63 (0, 0)) ∧ Below b1 W X ∧ W.heap.size ≤ X.heap.size ∧ (∀ k, k < W.heap.size → k ≠ gd → X.heap[k]? = W.heap[k]?) := by
  have hc' := blk_keep hc hb
  obtain ⟨hX1, hX2, hX3⟩ := nine hc' (.bool true) (.int .i64 Jd'.room) (.int .i64 Jd'.most) l3 w3 (.int .i64 Jd'.next) (.int .i64 Jd'.mode) d3 t3
  rw [← hX] at hX1 hX2 hX3
  have hov : Over 63 W' X := ⟨hX2.1, fun k o ho hn => by
    have hlt := (Array.getElem?_eq_some_iff.1 ho).1
    refine (hX2.2 k hlt (fun e => ?_)).trans ho
    rw [e, hc'] at ho
    exact hn _ (Option.some.inj ho).symm⟩
  refine ⟨JM_over (jm_below h hb) hov (by decide) (by decide) (by decide), hd.kept (hX2.mono (S' := fun k => k = gd) (fun _ h => h)) (fun k hk => hk.2), hX1, (hb.mono hb1).trans (hX3 b1 hgd), Nat.le_trans hb.size hX2.1, fun k hk hn => ?_⟩
  exact (hX2.2 k (Nat.lt_of_lt_of_le hk hb.size) hn).trans (hb.block k hk)
/-- The program's joiner has been turned: the document's lies as it was. -/
theorem prog_step (h : JM W b1 g bm vl vd (.slice none 0 0) wv [] J) (hc : W.heap[gd]? = some (.cells (dcs Jd l2 w2 d2 t2) 63 (0, 0))) (hd : DV W b1 (PD g bm gd vl vd) l2 w2 d2 t2 ws Jd) (hk : Kept W W' (Mut g bm vl vd (.slice none 0 0))) (hm : ∀ k, k < W.heap.size → Mut g bm vl vd' (.slice none 0 0) k → Mut g bm vl vd (.slice none 0 0) k) :
    DV W' b1 (PD g bm gd vl vd') l2 w2 d2 t2 ws Jd ∧ W'.heap[gd]? = some (.cells (dcs Jd l2 w2 d2 t2) 63 (0, 0)) := by
  have hng : ¬ Mut g bm vl vd (.slice none 0 0) gd := mut_typed h (by decide) (by decide) (by decide) gd _ hc
  refine ⟨?_, (hk.2 gd (blk_lt hc) hng).trans hc⟩
  have ok : ∀ k, PD g bm gd vl vd k ∧ k < W.heap.size → PD g bm gd vl vd' k := fun k hk => ⟨fun e => hk.1.1 (hm k hk.2 e), hk.1.2⟩
  have hn : ∀ k, PD g bm gd vl vd k → ¬ Mut g bm vl vd (.slice none 0 0) k := fun k hk => hk.1
  refine ⟨hd.perm, hd.nm, ?_, ?_, ?_, ?_⟩
  · exact Kd.V_mono (Kd.V_kept (Kd.V_bound hd.last) hk (fun k hk => hn k hk.1.1)) (fun k hk => ⟨ok k ⟨hk.1.1, hk.2⟩, hk.1.2⟩)
  · exact Kd.V_mono (Kd.V_kept (Kd.V_bound hd.wait) hk (fun k hk => hn k hk.1.1)) (fun k hk => ⟨ok k ⟨hk.1.1, hk.2⟩, hk.1.2⟩)
  · exact Kd.V_mono (Kd.V_kept (Kd.V_bound hd.data) hk (fun k hk => hn k hk.1.1)) (fun k hk => ⟨ok k ⟨hk.1.1, hk.2⟩, hk.1.2⟩)
  · exact Kd.N_mono (Kd.N_kept (Kd.N_bound hd.told) hk (fun k hk => hn k hk.1)) ok
/-- Octets that came in, for the document. -/
theorem came_V {W0 : World} {A : Option Addr} {c : Nat} {xs : List Int} (h : (Kd.int .u8).C W0 A xs.length xs) (hl : xs.length ≤ c) (hb : Below W0.heap.size W0 W) (hj : JM W b1 g bm vl vd (.slice none 0 0) wv [] J) (hbs : W0.heap.size ≤ b1) (hgd : b1 ≤ gd) (ht : ∀ k, t2.ownBlock = some k → b1 ≤ k) :
    Kd.V (Kd.int .u8) 5 W b1 (fun k => PD g bm gd vl vd k ∧ some k ≠ t2.ownBlock) (.slice A xs.length c) xs :=
  Kd.V_mk hl (Kd.F_mono (Kd.F_below (Kd.C_F (Kd.heap_int .u8) h) hb) fun k hk => ⟨⟨fun hm => by have := mut_ge hj k hm; omega, by omega⟩, fun e => by have := ht k e.symm; omega⟩)
end
theorem mute_rest {J : Jn} {E : List Ev} (h : J.evs = []) : mute { J with evs := E } = J := rest_id h
theorem back_rest (J : Jn) : ({ rest J with evs := J.evs } : Jn) = J := rfl
/-- A piece, as another type. -/
def to29 (p : S24) : S29 := ⟨p.f0, p.f1, p.f2, p.f3⟩

set_option maxHeartbeats 8000000 in
set_option maxRecDepth 100000 in
theorem plays_walk (links room most : Int) (A : Option Addr) (c : Nat) (l : List S67) (W : World) (hS : Shapes W) (hC : k67.C W A l.length l) (hc : l.length ≤ c) :
    Calls Tryd.prog 8 #[.int .i64 links, .int .i64 room, .int .i64 most, .slice A l.length c] W fun e w' => e = .returned (.bool true) ∧ Below W.heap.size W w' := by
  have hsp := speaks_any W hS
  have HS := Aside0.mk hS
  have HC := Aside0.mk hC
  have HL := Aside0.mk hc
  clear hS hC hc
  by_cases hlen : (60 : Int) < (l.length : Int)
  · have d60 : decide ((60 : Int) < (l.length : Int)) = true := decide_eq_true hlen
    have d60' : decide (60 < l.length) = true := decide_eq_true (by omega)
    clear hlen
    go_enter Tryd.func8, Tryd.ntmps8
    go_upto_region 2 with (first
      | (go_at_call 27; refine hsp.mono ?_; rintro e w1 ⟨rfl, hb1⟩; have HB1 := Aside0.mk hb1; clear hb1))
    have hsp2 := speaks_any w1 (HS.out.below HB1.out)
    go_wp2_with (first
      | (go_at_call 27; refine hsp2.mono ?_; rintro e w2 ⟨rfl, hb2⟩; have HB2 := Aside0.mk hb2; clear hb2))
    go_ret
    exact ⟨rfl, below_step HB1.out HB2.out⟩
  · have d60 : decide ((60 : Int) < (l.length : Int)) = false := decide_eq_false hlen
    have d60' : decide (60 < l.length) = false := decide_eq_false (by omega)
    have HLEN := Aside0.mk hlen
    clear hlen
    by_cases hmay : mayJ links room most
    case neg =>
      go_enter Tryd.func8, Tryd.ntmps8
      go_upto_region 3 with (first
        | (go_at_call 27; refine hsp.mono ?_; rintro e w1 ⟨rfl, hb1⟩; have HB1 := Aside0.mk hb1; clear hb1))
      have hn1 := new_bad true links room most w1 hmay
      have hn2 := new_doc_bad links room most w1 hmay
      clear hmay
      go_wp2_with (first
        | (go_at_call 28; refine hn1.mono ?_; rintro e w2 ⟨rfl, h2⟩; subst w2)
        | (go_at_call 29; refine hn2.mono ?_; rintro e w3 ⟨A3, c3, A4, c4, A7, c7, A8, c8, rfl, hb3⟩; have HB3 := Aside0.mk hb3; clear hb3))
      refine bodyPost_ret (results_tmp rfl _ _ _) rfl ?_
      exact ⟨rfl, below_alloc (below_step HB1.out HB3.out) _⟩
    case pos =>
      have HM := Aside0.mk hmay
      clear hmay
      go_enter Tryd.func8, Tryd.ntmps8
      go_upto_region 3 with (first
        | (go_at_call 27; refine hsp.mono ?_; rintro e w1 ⟨rfl, hb1⟩; have HB1 := Aside0.mk hb1; clear hb1))
      have hnew := new_ok true links room most w1 (HS.out.below HB1.out) HM.out
      go_upto_region 4 with (first
        | (go_at_call 28; refine hnew.mono ?_; rintro e w2 ⟨g, bm, vl, rfl, hJ2, hb2⟩; have HB2 := Aside0.mk hb2; have HJ2 := Aside0.mk hJ2; clear hJ2 hb2))
      have hnd := new_doc links room most w2 (fun k => ¬ Mut g bm vl (.slice none 0 0) (.slice none 0 0) k) (fun k hk e => by have := mut_lt HJ2.out k e; omega) HM.out
      clear hnew
      obtain ⟨J0, hJ0⟩ : ∃ q, newJ true links room most = q := ⟨_, rfl⟩
      rw [hJ0] at hnd HJ2
      have hst0 := newJ_ok (short := true) (links := links) (room := room) (most := most) HM.out
      have hj0 : J0.nm = 4096 ∧ J0.room = room ∧ J0.last.length = links.toNat ∧ J0.evs = [] ∧ J0.wait = [] := by rw [← hJ0]; exact ⟨rfl, rfl, by simp [newJ], rfl, rfl⟩
      rw [hJ0] at hst0
      have HJ0 := Aside0.mk (And.intro hst0 hj0)
      clear hst0 hj0 hJ0 hsp
      go_upto_region 5 with (first
        | (go_at_call 29; refine hnd.mono ?_; rintro e w3 ⟨l2, q2, d2, t2, rfl, hdv, hb3⟩; obtain ⟨Al2, nl2, cl2, rfl⟩ := V_sl hdv.last; obtain ⟨Aq2, nq2, cq2, rfl⟩ := V_sl hdv.wait; obtain ⟨Ad2, nd2, cd2, rfl⟩ := V_sl hdv.data; obtain ⟨At2, nt2, ct2, rfl⟩ := N_sl hdv.told; have HDV := Aside0.mk hdv; have HB3 := Aside0.mk hb3; clear hdv hb3))
      have hdv4 : DV (w3.alloc (.cells (dcs J0 (.slice Al2 nl2 cl2) (.slice Aq2 nq2 cq2) (.slice Ad2 nd2 cd2) (.slice At2 nt2 ct2)) 63)) w1.heap.size (PD g bm w3.heap.size vl (.slice none 0 0)) (.slice Al2 nl2 cl2) (.slice Aq2 nq2 cq2) (.slice Ad2 nd2 cd2) (.slice At2 nt2 ct2) [] J0 := by
        have h1 := HDV.out
        have hle := HB2.out.size
        have ok : ∀ k, (¬ Mut g bm vl (.slice none 0 0) (.slice none 0 0) k) ∧ k < w3.heap.size → PD g bm w3.heap.size vl (.slice none 0 0) k := fun k hk => ⟨hk.1, by omega⟩
        refine ⟨h1.perm, h1.nm, Kd.V_below (Kd.V_mono (Kd.V_bound h1.last) (fun k hk => ⟨ok k ⟨hk.1.1, hk.2⟩, hk.1.2⟩)) (below_alloc (Below.refl _ _) _), Kd.V_below (Kd.V_mono (Kd.V_bound h1.wait) (fun k hk => ⟨ok k ⟨hk.1.1, hk.2⟩, hk.1.2⟩)) (below_alloc (Below.refl _ _) _), Kd.V_below (Kd.V_mono (Kd.V_bound h1.data) (fun k hk => ⟨ok k ⟨hk.1.1, hk.2⟩, hk.1.2⟩)) (below_alloc (Below.refl _ _) _), Kd.N_below (Kd.N_mono (Kd.N_bound (Kd.N_lower h1.told hle)) ok) (below_alloc (Below.refl _ _) _)⟩
      have hj4 := jm_below HJ2.out (below_then HB3.out HB3.out.size (below_alloc (Below.refl w3.heap.size w3) (.cells (dcs J0 (.slice Al2 nl2 cl2) (.slice Aq2 nq2 cq2) (.slice Ad2 nd2 cd2) (.slice At2 nt2 ct2)) 63)))
      have hc4 := new1 w3 (.cells (dcs J0 (.slice Al2 nl2 cl2) (.slice Aq2 nq2 cq2) (.slice Ad2 nd2 cd2) (.slice At2 nt2 ct2)) 63)
      have hb4 : Below W.heap.size W (w3.alloc (.cells (dcs J0 (.slice Al2 nl2 cl2) (.slice Aq2 nq2 cq2) (.slice Ad2 nd2 cd2) (.slice At2 nt2 ct2)) 63)) := below_alloc (below_step (below_step HB1.out HB2.out) HB3.out) _
      have hgd4 : w1.heap.size ≤ w3.heap.size := Nat.le_trans HB2.out.size HB3.out.size
      have hsz4 : w1.heap.size ≤ (w3.alloc (.cells (dcs J0 (.slice Al2 nl2 cl2) (.slice Aq2 nq2 cq2) (.slice Ad2 nd2 cd2) (.slice At2 nt2 ct2)) 63)).heap.size := by rw [World.size_alloc]; omega
      obtain ⟨gd, hgd⟩ : ∃ q, w3.heap.size = q := ⟨_, rfl⟩
      rw [hgd] at hdv4 hc4 hgd4
      simp only [hgd]
      have H4 := Aside0.mk (And.intro hdv4 (And.intro hj4 (And.intro hc4 (And.intro hb4 (And.intro hgd4 hsz4)))))
      clear hdv4 hj4 hc4 hb4 hgd4 hsz4 hgd
      generalize w3.alloc (.cells (dcs J0 (.slice Al2 nl2 cl2) (.slice Aq2 nq2 cq2) (.slice Ad2 nd2 cd2) (.slice At2 nt2 ct2)) 63) = W4 at H4 ⊢
      clear HDV HB3 HJ2 HB2
      go_wp2_with (fail)
      go_loopg [55] l.length (fun kq v55 wr => Aside0 (∃ i : Nat, v55 = .int .i64 (i : Int) ∧ i ≤ l.length ∧ kq = l.length - i ∧ ∃ vd wv J l2 q2 d2 t2 ws E, JM wr w1.heap.size g bm vl vd (.slice none 0 0) wv [] J ∧ Still J ((i : Int) * 4096) ∧ J.nm = 4096 ∧ J.last.length = links.toNat ∧ J.wait.length ≤ i ∧ DV wr w1.heap.size (PD g bm gd vl vd) l2 q2 d2 t2 ws { J with evs := E } ∧ wr.heap[gd]? = some (.cells (dcs J l2 q2 d2 t2) 63 (0, 0)) ∧ w1.heap.size ≤ wr.heap.size ∧ Below W.heap.size W wr))
      case atStart =>
        have hz : ({ J0 with evs := [] } : Jn) = J0 := rest_id HJ0.out.2.2.2.2.1
        refine ⟨0, rfl, Nat.zero_le _, by omega, _, _, J0, _, _, _, _, [], [], H4.out.2.1, ⟨by simpa using HJ0.out.1.1, HJ0.out.1.2, HJ0.out.2.2.2.2.1, by have h1 := HJ0.out.2.2.1; have h2 := HM.out; unfold mayJ at h2; omega⟩, HJ0.out.2.1, HJ0.out.2.2.2.1, by rw [HJ0.out.2.2.2.2.2]; exact Nat.le_refl 0, by rw [hz]; exact H4.out.1, H4.out.2.2.1, H4.out.2.2.2.2.2, H4.out.2.2.2.1⟩
      case round =>
        have HGD := Aside0.mk H4.out.2.2.2.2.1
        clear H4
        obtain ⟨i, rfl, hi, rfl, vd, wv, J, l2, q2, d2, t2, ws, E, hJ, hst, hnm, hll, hwi, hdv, hcell, hsz, hb⟩ := hrel.out
        clear hrel
        obtain ⟨Al5, nl5, cl5, rfl⟩ := V_sl hdv.last
        obtain ⟨Aq5, cq5, rfl⟩ := Kd.V_slice hdv.wait
        have hpl := hdv.perm.length_eq
        have hpl' : ws.length = J.wait.length := hpl
        rw [List.length_map, hpl'] at hdv hcell
        obtain ⟨Ad5, nd5, cd5, rfl⟩ := V_sl hdv.data
        obtain ⟨At5, nt5, ct5, rfl⟩ := N_sl hdv.told
        have HJ := Aside0.mk hJ
        have HST := Aside0.mk hst
        have HDV := Aside0.mk (And.intro hdv hcell)
        have HR := Aside0.mk (And.intro hi (And.intro hnm (And.intro hll (And.intro hwi (And.intro hsz hb)))))
        clear hJ hst hi hnm hll hwi hsz hb hdv hcell hpl hpl'
        by_cases hlt : i < l.length
        case neg =>
          have d1 : decide ((i : Int) < (l.length : Int)) = false := decide_eq_false (by omega)
          have d2 : decide (i < l.length) = false := decide_eq_false hlt
          clear hlt
          go_wp2_with (fail)
          refine bodyPost_ret (results_tmp rfl _ _ _) rfl ?_
          exact ⟨rfl, HR.out.2.2.2.2.2⟩
        case pos =>
          have d1 : decide ((i : Int) < (l.length : Int)) = true := decide_eq_true (by omega)
          have d2 : decide (i < l.length) = true := decide_eq_true hlt
          obtain ⟨ad, A4, c4, rfl, y0, y1, y2, y3, y4, xl, xC⟩ := at_T67 HC.out i hlt
          have hbW := HR.out.2.2.2.2.2
          have x0 := pw_cell_below hbW y0
          have x1 := pw_cell_below hbW y1
          have x2 := pw_cell_below hbW y2
          have x3 := pw_cell_below hbW y3
          have x4 := pw_cell_below hbW y4
          clear y0 y1 y2 y3 y4 hbW
          obtain ⟨x, hx⟩ : ∃ x, l.getD i z67 = x := ⟨_, rfl⟩
          rw [hx] at x0 x1 x2 x3 x4 xl xC
          have HX := Aside0.mk (And.intro hx (And.intro xl xC))
          have hi2 : (i : Int) < (l.length : Int) := by omega
          have HLT := Aside0.mk hlt
          have hwi1 : IntKind.i64.wrap ((i : Int) + 1) = ((i + 1 : Nat) : Int) := by rw [IntWalk.i64_in _ (by have := HLEN.out; omega)]; omega
          have hi0 : (0 : Int) ≤ (i : Int) := by omega
          clear hx xl xC
          go_upto_region 12 with (fail)
          have hba := below_alloc (Below.refl wr.heap.size wr) (.cells #[.int .i64 x.f0, .bool x.f1.f0, .bool x.f1.f1, .int .i64 x.f1.f2, .slice A4 x.f1.f3.length c4] 67)
          have hP := new1 wr (.cells #[.int .i64 x.f0, .bool x.f1.f0, .bool x.f1.f1, .int .i64 x.f1.f2, .slice A4 x.f1.f3.length c4] 67)
          have hdv1 := HDV.out.1.below hba
          have hcell1 := blk_keep HDV.out.2 hba
          have hJ1 := jm_below HJ.out hba
          have hbW1 := below_step HR.out.2.2.2.2.2 hba
          have hsz1 := Nat.le_trans HR.out.2.2.2.2.1 hba.size
          have hg7' : gd < wr.heap.size := blk_lt HDV.out.2
          obtain ⟨g7, hg7⟩ : ∃ q, wr.heap.size = q := ⟨_, rfl⟩
          rw [hg7] at hP hg7'
          simp only [hg7]
          have hm7 : ¬ Mut g bm vl vd (.slice none 0 0) g7 := fun e => by have := mut_lt HJ.out g7 e; omega
          have HW1 := Aside0.mk (And.intro hJ1 (And.intro hdv1 (And.intro hcell1 (And.intro hbW1 (And.intro hsz1 (And.intro hP (And.intro (show g7 ≠ gd by omega) hm7)))))))
          clear hba hP hdv1 hcell1 hJ1 hbW1 hsz1 hg7' hm7 x0 x1 x2 x3 x4 hg7 HJ HDV
          generalize wr.alloc (.cells #[.int .i64 x.f0, .bool x.f1.f0, .bool x.f1.f1, .int .i64 x.f1.f2, .slice A4 x.f1.f3.length c4] 67) = W1 at HW1 ⊢
          have q0 := blk_cell HW1.out.2.2.2.2.2.1 0
          have q1 := blk_cell HW1.out.2.2.2.2.2.1 1
          have q2 := blk_cell HW1.out.2.2.2.2.2.1 2
          have q3 := blk_cell HW1.out.2.2.2.2.2.1 3
          have q4 := blk_cell HW1.out.2.2.2.2.2.1 4
          simp at q0 q1 q2 q3 q4
          by_cases hbig : (60 : Int) < (x.f1.f3.length : Int)
          case pos =>
            have d3 : decide ((60 : Int) < (x.f1.f3.length : Int)) = true := decide_eq_true hbig
            have d3' : decide (60 < x.f1.f3.length) = true := decide_eq_true (by omega)
            clear hbig
            go_wp2_with (fail)
            refine bodyPost_ret (results_tmp rfl _ _ _) rfl ?_
            exact ⟨rfl, HW1.out.2.2.2.1⟩
          case neg =>
            have d3 : decide ((60 : Int) < (x.f1.f3.length : Int)) = false := decide_eq_false hbig
            have d3' : decide (60 < x.f1.f3.length) = false := decide_eq_false (by omega)
            have HBIG := Aside0.mk hbig
            clear hbig
            obtain ⟨a0, a1, a2, a3, a4, a5, a6, a7, a8⟩ := cells9 HW1.out.2.2.1
            have hph : 2 * phi J ≤ 60000 := by
              have h1 := HR.out.2.2.2.1
              have h2 := HLEN.out
              have h3 := HR.out.1
              unfold phi
              split <;> split <;> (try split) <;> omega
            have hK : (i : Int) * 4096 ≤ 100000000000 := by have h1 := HR.out.1; have h2 := HLEN.out; omega
            have hPn : ∀ k, W1.heap.size ≤ k → PD g bm gd vl vd k := PD.new HW1.out.1 HW1.out.2.2.1
            have hl100 : J.last.length ≤ 100 := by have h1 := HR.out.2.2.1; have h2 := HM.out; unfold mayJ at h2; omega
            have hm := mute_rest (J := J) (E := E) HST.out.evs
            have HP := Aside0.mk (And.intro hph (And.intro hK (And.intro hPn (And.intro hl100 hm))))
            clear hph hK hPn hl100 hm
            by_cases hfl : (100 : Int) ≤ x.f0
            case pos =>
              have d4 : decide ((100 : Int) ≤ x.f0) = true := decide_eq_true hfl
              clear hfl
              have hfd := Lf.flush_doc W1 w1.heap.size (PD g bm gd vl vd) (.slice Al5 nl5 cl5) (.slice Aq5 J.wait.length cq5) (.slice Ad5 nd5 cd5) (.slice At5 nt5 ct5) ws { J with evs := E } ((i : Int) * 4096) HW1.out.2.1 (by rw [show ({ ({ J with evs := E } : Jn) with evs := [] } : Jn) = J from HP.out.2.2.2.2]; exact HST.out.ok) (by rw [show ({ ({ J with evs := E } : Jn) with evs := [] } : Jn) = J from HP.out.2.2.2.2]; exact HST.out.step) (by have := HP.out.2.1; omega) HP.out.2.2.1 HW1.out.2.2.2.2.1 (by rw [show ({ ({ J with evs := E } : Jn) with evs := [] } : Jn) = J from HP.out.2.2.2.2]; have := HP.out.1; omega) HP.out.2.2.2.1
              rw [show ({ ({ J with evs := E } : Jn) with evs := [] } : Jn) = J from HP.out.2.2.2.2] at hfd
              obtain ⟨J6, hJ6⟩ : ∃ q, thinJ 0 J = q := ⟨_, rfl⟩
              rw [hJ6] at hfd
              have hth := thin_ok (room := 0) _ (Nat.le_refl _) HST.out.ok HST.out.step
              rw [hJ6] at hth
              have HJ6 := Aside0.mk (And.intro hJ6 hth)
              clear hJ6 hth
              go_upto_region 17 with (first
                | (go_at_call 30; refine hfd.mono ?_; rintro e w3 ⟨q6, d6, t6, ws6, rfl, hdv6, hb6⟩; obtain ⟨Aq6, cq6, rfl⟩ := Kd.V_slice hdv6.wait; rw [List.length_map, hdv6.perm.length_eq] at hdv6; simp only [List.length_map, hdv6.perm.length_eq]; obtain ⟨Ad6, nd6, cd6, rfl⟩ := V_sl hdv6.data; obtain ⟨At6, nt6, ct6, rfl⟩ := N_sl hdv6.told; have hc6 := blk_keep HW1.out.2.2.1 hb6; obtain ⟨z0, z1, z2, z3, z4, z5, z6, z7, z8⟩ := cells9 hc6; have fx : ∀ j, w3.frozen? ⟨gd, j, none⟩ = false := fun j => blk_frozen hc6 j; have HX6 := Aside0.mk (And.intro hdv6 hb6); clear hdv6 hb6 hc6))
              obtain ⟨X, hX⟩ : ∃ X, (((((((((w3.setCell ⟨gd, 0, none⟩ (.bool true)).setCell ⟨gd, 1, none⟩ (.int .i64 J6.room)).setCell ⟨gd, 2, none⟩ (.int .i64 J6.most)).setCell ⟨gd, 3, none⟩ (.slice Al5 nl5 cl5)).setCell ⟨gd, 4, none⟩ (.slice Aq6 J6.wait.length cq6)).setCell ⟨gd, 5, none⟩ (.int .i64 J6.next)).setCell ⟨gd, 6, none⟩ (.int .i64 J6.mode)).setCell ⟨gd, 7, none⟩ (.slice Ad6 nd6 cd6)).setCell ⟨gd, 8, none⟩ (.slice At6 nt6 ct6)) = X := ⟨_, rfl⟩
              obtain ⟨s1, s2, s3, s4, s5, s6⟩ := doc_store HW1.out.1 HW1.out.2.2.1 HGD.out HW1.out.2.2.2.2.1 HX6.out.2 HX6.out.1 hX.symm
              rw [hX]
              have HXX := Aside0.mk (And.intro s1 (And.intro s2 (And.intro s3 (And.intro s4 s5))))
              clear s1 s2 s3 s4 s5 s6 hX z0 z1 z2 z3 z4 z5 z6 z7 z8 fx a0 a1 a2 a3 a4 a5 a6 a7 a8 HX6 hfd q0 q1 q2 q3 q4
              have hfl := flush_any X w1.heap.size g bm vl vd _ wv [] J ((i : Int) * 4096) HXX.out.1 HST.out.ok HST.out.step (by have := HP.out.2.1; omega) (Nat.le_trans HW1.out.2.2.2.2.1 HXX.out.2.2.2.2) (by have := HP.out.1; simp; omega)
              rw [HJ6.out.1] at hfl
              have hel : J6.evs.length ≤ 100000 := by
                have h1 := HJ6.out.2.2.2.1
                have h2 := HP.out.1
                rw [HST.out.evs] at h1
                simp at h1
                omega
              have HEL := Aside0.mk hel
              clear hel
              go_upto_if 77 with (first
                | (go_at_call 33; refine hfl.mono ?_; rintro e w5 ⟨vd5, ve5, wv5, er5, rfl, hJ5, hR5, hE5, hk5, hm5, hb5⟩; have hto := to_doc hR5 hE5 HEL.out; obtain ⟨A5, n5, c5, hve5⟩ := R_sl hR5; subst hve5; obtain ⟨hdv5, hcell5⟩ := prog_step HXX.out.1 HXX.out.2.2.1 HXX.out.2.1 hk5 hm5; have HY5 := Aside0.mk (And.intro hJ5 (And.intro hdv5 (And.intro hcell5 hb5))); clear hJ5 hR5 hE5 hk5 hm5 hb5 hdv5 hcell5)
                | (go_at_call 32; refine hto.mono ?_; rintro e w6 ⟨A7, n7, c7, rfl, hn7, hc7, hC7, hb7⟩; have hN7 := (HY5.out.2.1.below hb7).told; have hrd := Kd.N_reads' hN7; have hrl := hrd.2.2; rw [← hrd.1] at hrl; have hsd := same_doc hn7 hrd.1 hC7 hc7 hrl hrd.2.1 (by have := HEL.out; simpa using this); have HY7 := Aside0.mk hb7; clear hn7 hc7 hC7 hb7 hN7 hrd hrl)
                | (go_at_call 31; refine hsd.mono ?_; rintro e w7 ⟨rfl, hb8⟩; have HY8 := Aside0.mk hb8; clear hb8))
              have hb57 := below_step HY7.out HY8.out
              have hj7 := jm_below HY5.out.1 hb57
              have hd7 := HY5.out.2.1.below hb57
              have hcc7 := blk_keep HY5.out.2.2.1 hb57
              have hz7 : w5.heap.size ≤ w7.heap.size := hb57.size
              have hb7W : Below W.heap.size W w7 := (((HW1.out.2.2.2.1.trans (HXX.out.2.2.2.1.mono HB1.out.size)).trans (HY5.out.2.2.2.mono HB1.out.size)).trans (hb57.mono (Nat.le_trans HB1.out.size (Nat.le_trans (Nat.le_trans HW1.out.2.2.2.2.1 HXX.out.2.2.2.2) HY5.out.2.2.2.size))))
              have hs7 : w1.heap.size ≤ w7.heap.size := Nat.le_trans (Nat.le_trans HW1.out.2.2.2.2.1 HXX.out.2.2.2.2) (Nat.le_trans HY5.out.2.2.2.size hz7)
              have HZ := Aside0.mk (And.intro hj7 (And.intro hd7 (And.intro hcc7 (And.intro hb7W hs7))))
              clear hb57 hj7 hd7 hcc7 hz7 hb7W hs7 HY5 HY7 HY8 HXX hfl hto hsd
              go_wp2
              go_roundg (l.length - (i + 1))
              case measure => have h1 := HLT.out; omega
              case rel =>
                obtain ⟨u1, u2, u3, u4, u5, u6, u7, u8, u9⟩ := HJ6.out.2
                have hr := HR.out
                have e : (((i + 1 : Nat) : Int) * 4096) = (i : Int) * 4096 + 4096 := by omega
                refine ⟨i + 1, by first | rfl | rw [hwi1], by have := HLT.out; omega, rfl, vd5, wv5, rest J6, _, _, _, _, _, J6.evs, HZ.out.1, ⟨by rw [e]; exact ok_mono (ok_rest u1) (by omega), step_rest u2, rfl, by show 0 ≤ J6.room; rw [u5]; exact HST.out.room⟩, u4.trans hr.2.1, by show J6.last.length = _; rw [u7]; exact hr.2.2.1, by show J6.wait.length ≤ i + 1; omega, HZ.out.2.1, HZ.out.2.2.1, HZ.out.2.2.2.2, HZ.out.2.2.2.1⟩
            case neg =>
              have d4 : decide ((100 : Int) ≤ x.f0) = false := decide_eq_false hfl
              clear hfl
              have hmu : mute { J with evs := E } = J := HP.out.2.2.2.2
              have hpl : (to29 x.f1).f3.length ≤ 1000 := by have := HBIG.out; simp only [to29]; omega
              have hfd := feed_doc W1 w1.heap.size (PD g bm gd vl vd) (.slice Al5 nl5 cl5) (.slice Aq5 J.wait.length cq5) (.slice Ad5 nd5 cd5) (.slice At5 nt5 ct5) ws { J with evs := E } ((i : Int) * 4096) x.f0 (to29 x.f1) A4 c4 HW1.out.2.1 (by rw [hmu]; exact HST.out.ok) (by rw [hmu]; exact HST.out.step) HP.out.2.1 HST.out.room HP.out.2.2.1 HW1.out.2.2.2.2.1 (by rw [hmu]; exact HP.out.1) HP.out.2.2.2.1 (came_V HX.out.2.2 HX.out.2.1 HW1.out.2.2.2.1 HW1.out.1 HB1.out.size HGD.out (fun k hk => Kd.N_base HW1.out.2.1.told k hk)) hpl
              rw [hmu] at hfd
              have hfs := feed_still (link := x.f0) (p := to29 x.f1) HST.out hpl
              have hla : (laidJ J x.f0 (to29 x.f1)).wait.length ≤ J.wait.length + 1 := by
                unfold laidJ
                simp only
                split
                · simp [insK_length]
                · simp
              simp only [to29] at hfd hfs hla
              have HFS := Aside0.mk (And.intro hfs hla)
              clear hfs hla hmu hpl
              go_upto_region 21 with (first
                | (go_at_call 34; refine hfd.mono ?_; rintro e w3 ⟨l6, q6, d6, t6, ws6, J7, v6, m6, rfl, hdv6, hb6, hF6, hor6⟩; obtain ⟨Al6, nl6, cl6, rfl⟩ := V_sl hdv6.last; obtain ⟨Aq6, cq6, rfl⟩ := Kd.V_slice hdv6.wait; rw [List.length_map, hdv6.perm.length_eq] at hdv6; simp only [List.length_map, hdv6.perm.length_eq]; obtain ⟨Ad6, nd6, cd6, rfl⟩ := V_sl hdv6.data; obtain ⟨At6, nt6, ct6, rfl⟩ := N_sl hdv6.told; obtain ⟨A2, n2, c2, hv2⟩ : ∃ A n c, v6 = .slice A n c := (by rcases hor6 with h | h; exact ⟨_, _, _, h.2.2⟩; exact ⟨_, _, _, h.2⟩); subst hv2; have hc6 := blk_keep HW1.out.2.2.1 hb6; obtain ⟨z0, z1, z2, z3, z4, z5, z6, z7, z8⟩ := cells9 hc6; have fx : ∀ j, w3.frozen? ⟨gd, j, none⟩ = false := fun j => blk_frozen hc6 j; have HX6 := Aside0.mk (And.intro hdv6 (And.intro hb6 (And.intro hF6 hor6))); have hp6 := blk_keep HW1.out.2.2.2.2.2.1 hb6; clear hdv6 hb6 hc6 hF6 hor6))
              obtain ⟨X, hX⟩ : ∃ X, (((((((((w3.setCell ⟨gd, 0, none⟩ (.bool true)).setCell ⟨gd, 1, none⟩ (.int .i64 J7.room)).setCell ⟨gd, 2, none⟩ (.int .i64 J7.most)).setCell ⟨gd, 3, none⟩ (.slice Al6 nl6 cl6)).setCell ⟨gd, 4, none⟩ (.slice Aq6 J7.wait.length cq6)).setCell ⟨gd, 5, none⟩ (.int .i64 J7.next)).setCell ⟨gd, 6, none⟩ (.int .i64 J7.mode)).setCell ⟨gd, 7, none⟩ (.slice Ad6 nd6 cd6)).setCell ⟨gd, 8, none⟩ (.slice At6 nt6 ct6)) = X := ⟨_, rfl⟩
              obtain ⟨s1, s2, s3, s4, s5, s6⟩ := doc_store HW1.out.1 HW1.out.2.2.1 HGD.out HW1.out.2.2.2.2.1 HX6.out.2.1 HX6.out.1 hX.symm
              rw [hX]
              have hp7 := (s6 g7 (blk_lt HW1.out.2.2.2.2.2.1) HW1.out.2.2.2.2.2.2.1).trans HW1.out.2.2.2.2.2.1
              obtain ⟨F1, hF1⟩ : ∃ q, (if m6 = 0 then J7 else J) = q := ⟨_, rfl⟩
              have hF := HX6.out.2.2.1
              rw [hF1] at hF
              have hfs := HFS.out
              rw [hF] at hfs
              have hE7 : ∃ E7, J7 = { rest F1 with evs := E7 } := by
                rcases HX6.out.2.2.2 with h | h
                · refine ⟨E, ?_⟩
                  rw [← hF1, if_neg h.1, h.2.1, rest_id HST.out.evs]
                · refine ⟨F1.evs, ?_⟩
                  rw [← hF1, if_pos h.1]
                  exact (back_rest J7).symm
              have hwant : ∀ (w : World) (P' : Nat → Prop), DV w w1.heap.size P' (.slice Al6 nl6 cl6) (.slice Aq6 J7.wait.length cq6) (.slice Ad6 nd6 cd6) (.slice At6 nt6 ct6) ws6 J7 → n2 = (F1.evs.map T106).length ∧ n2 ≤ c2 ∧ Kd.C k106 w A2 n2 (F1.evs.map T106) := by
                intro w P' hd
                rcases HX6.out.2.2.2 with h | h
                · have e1 := h.2.2
                  cases e1
                  have e2 : F1.evs = [] := by rw [← hF1, if_neg h.1]; exact HST.out.evs
                  rw [e2]
                  exact ⟨rfl, Nat.le_refl _, Kd.C_nil _ _⟩
                · have e1 := h.2
                  cases e1
                  have e2 : F1 = J7 := by rw [← hF1, if_pos h.1]
                  rw [e2]
                  have h3 := Kd.N_reads' hd.told
                  refine ⟨h3.1, h3.2.1, ?_⟩
                  have h4 := h3.2.2
                  rw [← h3.1] at h4
                  exact h4
              have HXX := Aside0.mk (And.intro s1 (And.intro s2 (And.intro s3 (And.intro s4 (And.intro s5 hp7)))))
              have HF := Aside0.mk (And.intro hF (And.intro hfs (And.intro hE7 hwant)))
              clear s1 s2 s3 s4 s5 s6 hX z0 z1 z2 z3 z4 z5 z6 z7 z8 fx a0 a1 a2 a3 a4 a5 a6 a7 a8 HX6 hfd q0 q1 q2 q3 q4 hp6 hF hfs hE7 hwant hF1 HFS hp7
              have q0 := blk_cell HXX.out.2.2.2.2.2 0
              have q1 := blk_cell HXX.out.2.2.2.2.2 1
              have q2 := blk_cell HXX.out.2.2.2.2.2 2
              have q3 := blk_cell HXX.out.2.2.2.2.2 3
              have q4 := blk_cell HXX.out.2.2.2.2.2 4
              simp at q0 q1 q2 q3 q4
              have hbX : Below W.heap.size W X := HW1.out.2.2.2.1.trans (HXX.out.2.2.2.1.mono HB1.out.size)
              have hb1X : w1.heap.size ≤ X.heap.size := Nat.le_trans HW1.out.2.2.2.2.1 HXX.out.2.2.2.2.1
              have hfa := feed_any X w1.heap.size g bm vl vd wv J ((i : Int) * 4096) x.f0 (to29 x.f1) A4 c4 HXX.out.1 HST.out (by have h1 := HR.out.2.1; have h2 := HP.out.2.1; omega) hb1X (by have h1 := HR.out.2.2.2.1; have := HLEN.out; omega) (by have := HBIG.out; simp only [to29]; omega) HX.out.2.1 (sl_came HX.out.2.2 hbX HXX.out.1 HB1.out.size)
              simp only [to29] at hfa
              rw [HF.out.1] at hfa
              have HBX := Aside0.mk (And.intro hbX hb1X)
              have hel : F1.evs.length ≤ 100000 := by
                obtain ⟨f1, f2, f3, f4, f5, f6, f7, f8, f9⟩ := HF.out.2.1.1
                have h2 := HF.out.2.1.2
                have h3 := HR.out.2.2.2.1
                have h4 := HLEN.out
                have h5 := HR.out.1
                have h6 : ∀ L : Jn, phi L ≤ 3 * L.wait.length + 2 := by
                  intro L
                  unfold phi
                  have : ∀ a b : Nat, a ≤ 1 → b ≤ 1 → 3 * L.wait.length + a + b ≤ 3 * L.wait.length + 2 := by intros; omega
                  refine this _ _ ?_ ?_
                  · (repeat' split) <;> omega
                  · split <;> omega
                have h7 := h6 (laidJ J x.f0 ⟨x.f1.f0, x.f1.f1, x.f1.f2, x.f1.f3⟩)
                have f9' : F1.evs.length ≤ 2 * phi (laidJ J x.f0 ⟨x.f1.f0, x.f1.f1, x.f1.f2, x.f1.f3⟩) := f9
                omega
              have HEL := Aside0.mk hel
              clear hbX hb1X hel
              go_upto_region 22 with (first
                | (go_at_call 35; refine hfa.mono ?_; rintro e w5 ⟨vd5, ve5, wv5, er5, rfl, hJ5, hR5, hE5, hk5, hm5, hb5⟩; have hto := to_doc (W := w5.drew) (Kd.R_drew hR5) hE5 HEL.out; obtain ⟨A5, n5, c5, hve5⟩ := R_sl hR5; subst hve5; obtain ⟨hdv5, hcell5⟩ := prog_step HXX.out.1 HXX.out.2.2.1 HXX.out.2.1 hk5 hm5; have HY5 := Aside0.mk (And.intro hJ5 (And.intro hdv5 (And.intro hcell5 hb5))); clear hJ5 hR5 hE5 hk5 hm5 hb5 hdv5 hcell5))
              have hc4 := (cells9 HY5.out.2.2.1).2.2.2.2.1
              clear q0 q1 q2 q3 q4 hfa
              have hwl : (F1.wait.length : Int) = (J7.wait.length : Int) := by
                obtain ⟨E7, h7⟩ := HF.out.2.2.1
                rw [h7]
                rfl
              have HWL := Aside0.mk hwl
              go_region_held3 (fun w' => w'.cell? ⟨gd, 4, none⟩ = some (.slice Aq6 J7.wait.length cq6)) (first | go_keep | exact HS6.out | exact HS7.out) (first
                | (go_at_call 32; refine hto.mono ?_; rintro e w6 ⟨A7, n7, c7, rfl, hn7, hc7, hC7, hb7⟩; have hb7' : Below w5.heap.size w5 w6 := below_then (below_drew (Below.refl _ _)) (Nat.le_refl _) hb7; have hwa := HF.out.2.2.2 w6 _ (HY5.out.2.1.below hb7'); have hsd := same_doc hn7 hwa.1 hC7 hc7 hwa.2.2 hwa.2.1 (by have := HEL.out; simpa using this); have HS6 := Aside0.mk (cells9 (blk_keep HY5.out.2.2.1 hb7')).2.2.2.2.1; have HY7 := Aside0.mk hb7'; clear hn7 hc7 hC7 hb7 hb7' hwa)
                | (go_at_call 31; refine hsd.mono ?_; rintro e w7 ⟨rfl, hb8⟩; have HY8 := Aside0.mk (below_step HY7.out hb8); have HS7 := Aside0.mk (cells9 (blk_keep HY5.out.2.2.1 HY8.out)).2.2.2.2.1; have hkp := kept_any w7 _ g bm _ _ _ _ _ _ (jm_below HY5.out.1 HY8.out); rw [show (rest F1).wait = F1.wait from rfl, HWL.out] at hkp; clear hb8)
                | (go_at_call 36; refine hkp.mono ?_; rintro e w8 ⟨rfl, h8⟩; subst w8))
              have hb57 := HY8.out
              have hj7 := jm_below HY5.out.1 hb57
              have hd7 := HY5.out.2.1.below hb57
              have hcc7 := blk_keep HY5.out.2.2.1 hb57
              have hb7W : Below W.heap.size W w7 := (HBX.out.1.trans (HY5.out.2.2.2.mono HB1.out.size)).trans (hb57.mono (Nat.le_trans HB1.out.size (Nat.le_trans HBX.out.2 HY5.out.2.2.2.size)))
              have hs7 : w1.heap.size ≤ w7.heap.size := Nat.le_trans HBX.out.2 (Nat.le_trans HY5.out.2.2.2.size hb57.size)
              have HZ := Aside0.mk (And.intro hj7 (And.intro hd7 (And.intro hcc7 (And.intro hb7W hs7))))
              clear hb57 hj7 hd7 hcc7 hb7W hs7 HY5 HY7 HY8 HXX HS6 HS7 hsd hkp hto hc4 hwl
              go_wp2
              go_roundg (l.length - (i + 1))
              case measure => have h1 := HLT.out; omega
              case rel =>
                obtain ⟨f1, f2, f3, f4, f5, f6, f7, f8, f9⟩ := HF.out.2.1.1
                obtain ⟨E7, h7⟩ := HF.out.2.2.1
                have hr := HR.out
                have e : (((i + 1 : Nat) : Int) * 4096) = (i : Int) * 4096 + J.nm := by rw [hr.2.1]; omega
                have hd := HZ.out.2.1
                have hc := HZ.out.2.2.1
                rw [h7] at hd hc
                refine ⟨i + 1, by first | rfl | rw [hwi1], by have := HLT.out; omega, rfl, vd5, wv5, rest F1, _, _, _, _, _, E7, HZ.out.1, by rw [e]; exact f1, f2.trans hr.2.1, f5.trans hr.2.2.1, ?_, hd, hc, HZ.out.2.2.2.2, HZ.out.2.2.2.1⟩
                have h8 : F1.wait.length ≤ J.wait.length + 1 := f6
                show F1.wait.length ≤ i + 1
                omega
end Go.Proofs.YtgopklnfdlnojaaDoor.Li
namespace Go.Proofs.YtgopklnfdlnojaaDoor.Rb
open Go.ChangeShapes Go.WideShapes Go.ChangeAt Go.WideMaps Go.WideElems Go.RowKit Go.Proofs.YtgopklnfdlnojaaDoor.Gb
set_option linter.unusedVariables false

theorem own : ownKnob Tryd.prog.godebug = none := by kernel_rfl
theorem gShapes : Tryd.prog.globalNamed "marline/frag.shapes" = some 0 := by kernel_rfl
theorem tShapes : (Tryd.prog.globals[0]?).map (·.type) = some 112 := by kernel_rfl
noncomputable def laidF {H : Type} : List (String × DataW H) := [("marline/frag.shapes", Rows.laid_marline_frag_shapes)]
theorem door_met (os : Os) (args : Array Value) : laidMetH Tryd.prog laidF ((World.doorLaid Tryd.prog 400 os).forCall (fun _ _ => 0) ⟨#[], args, []⟩).memory :=
  laidMetH_of_parts3 (fuel := 8) (laidMet_of_run' 8 (by kernel_rfl) (by kernel_rfl)) (by kernel_rfl) (by kernel_rfl)

theorem shape_open {W : World} {m : Nat} {c0 c1 c2 : Value} {a b c : Int} {q : List MemPlace} (h : DataW.trod (fun x => ()) Tryd.prog W 0 (fun x => true) false m 91 [c0, c1, c2] = some (.agg [.lit (.int .i64 a), .lit (.int .i64 b), .lit (.int .u8 c)], q)) :
    c0 = .int .i64 a ∧ c1 = .int .i64 b ∧ c2 = .int .u8 c := by
  obtain ⟨xs, n, _, hx, hl, hlen, hf⟩ := DataW.trod_struct Tryd.underlying91 h
  have f0 := hf 0 _ rfl
  have f1 := hf 1 _ rfl
  have f2 := hf 2 _ rfl
  clear hf hl h
  match xs, hlen, hx, f0, f1, f2 with
  | [x0, x1, x2], _, hx, f0, f1, f2 =>
    simp only [List.map_cons, List.map_nil, Prod.mk.injEq, DataW.agg.injEq, List.cons.injEq, and_true] at hx
    have c3 : Tryd.prog.cellsOf 3 = 1 := by kernel_rfl
    have c5 : Tryd.prog.cellsOf 5 = 1 := by kernel_rfl
    obtain ⟨k0, e0, e1, _⟩ := DataW.trod_int Tryd.underlying3 f0
    obtain ⟨k1, e2, e3, _⟩ := DataW.trod_int Tryd.underlying3 f1
    obtain ⟨k2, e4, e5, _⟩ := DataW.trod_int Tryd.underlying5 f2
    rw [e1, e3, e5] at hx
    simp [c3, c5] at e0 e2 e4 hx
    obtain ⟨⟨h0, h1, h2⟩, _⟩ := hx
    subst h0 h1 h2
    exact ⟨e0, e2, e4⟩

set_option maxRecDepth 100000 in
theorem of_laid {W : World} (h : laidMetH Tryd.prog laidF W) : Shapes W := by
  rw [MakeChecks.laidMetH_plain _ _ _ (by kernel_rfl)] at h
  obtain ⟨ps, ⟨g0, t0, cs0, f0, p0, q0, hg0, ht0, hv0, hd0, _, _⟩, _, _⟩ := h
  obtain rfl := Option.some.inj (gShapes.symm.trans hg0)
  obtain rfl := Option.some.inj (tShapes.symm.trans ht0)
  obtain ⟨xs, m1, rfl, hx1, hlen, hn3, hel⟩ := DataW.trod_array Tryd.underlying112 hd0
  have h0 := hel 0 (by decide)
  have h1 := hel 1 (by decide)
  have c3 : Tryd.prog.cellsOf 91 = 3 := by kernel_rfl
  clear hd0 hel
  have c6 : Tryd.prog.cellsOf 112 = 6 := by kernel_rfl
  rw [c6] at hlen
  rw [c3] at h0 h1
  have hv := World.var?_cell gShapes hv0
  obtain ⟨l⟩ := cs0
  match l, hlen, xs, hn3, h0, h1, hx1, hv with
  | [a0, a1, a2, a3, a4, a5], _, [x0, x1], _, h0, h1, hx1, hv =>
    simp only [List.map_cons, List.map_nil, Prod.mk.injEq, Rows.laid_marline_frag_shapes, DataW.agg.injEq, List.cons.injEq, and_true] at hx1
    obtain ⟨⟨e0, e1⟩, _⟩ := hx1
    have s0 := shape_open (q := x0.2) (h0.trans (by show some x0 = _; rw [e0]))
    have s1 := shape_open (q := x1.2) (h1.trans (by show some x1 = _; rw [e1]))
    obtain ⟨rfl, rfl, rfl⟩ := s0
    obtain ⟨rfl, rfl, rfl⟩ := s1
    exact ⟨by simpa using hv 0, by simpa using hv 1, by simpa using hv 2, by simpa using hv 3, by simpa using hv 4, by simpa using hv 5⟩

end Go.Proofs.YtgopklnfdlnojaaDoor.Rb
