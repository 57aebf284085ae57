/- A new joiner (28). -/
import Derived.Test.YtgopklnfdlnojaaDoorNa
namespace Go.Proofs.YtgopklnfdlnojaaDoor.Nb
open Go.RowKit Go.Proofs.YtgopklnfdlnojaaDoor.Ga Go.Proofs.YtgopklnfdlnojaaDoor.My Go.Proofs.YtgopklnfdlnojaaDoor.Gb Go.Proofs.YtgopklnfdlnojaaDoor.Gp Go.Proofs.YtgopklnfdlnojaaDoor.Ja Go.Proofs.YtgopklnfdlnojaaDoor.Jb Go.Proofs.YtgopklnfdlnojaaDoor.Jc Go.Proofs.YtgopklnfdlnojaaDoor.Jd Go.Proofs.YtgopklnfdlnojaaDoor.Je Go.Proofs.YtgopklnfdlnojaaDoor.Jf Go.Proofs.YtgopklnfdlnojaaDoor.Jg Go.Proofs.YtgopklnfdlnojaaDoor.Jh Go.Proofs.YtgopklnfdlnojaaDoor.Ji Go.Proofs.YtgopklnfdlnojaaDoor.Na Go.Proofs.YtgopklnfdlnojaaDoorW.PrintWords Go.Proofs.YtgopklnfdlnojaaDoorW.PrintLast Go.Proofs.YtgopklnfdlnojaaDoorW.PrintMore
set_option linter.unusedVariables false
set_option linter.unusedSimpArgs false

/-- A new joiner. -/
def newJ (short : Bool) (links room most : Int) : Jn := { nm := numbers short, room := room, most := most, last := List.replicate links.toNat (-1), wait := [], next := 0, mode := 0, data := [], evs := [] }
/-- What may be asked. -/
def mayJ (links room most : Int) : Prop := 1 ≤ links ∧ links ≤ 16 ∧ 1 ≤ room ∧ room ≤ 4096 ∧ 1 ≤ most ∧ most ≤ 1048576
theorem numbers_pos (short : Bool) : 0 < numbers short ∧ numbers short ≤ 16777216 := by cases short <;> simp [numbers]
theorem newJ_ok {short : Bool} {links room most : Int} (h : mayJ links room most) : OkJ (newJ short links room most) 0 ∧ stepJ (newJ short links room most) = none := by
  obtain ⟨h1, h2, h3, h4, h5, h6⟩ := h
  have hl : low (newJ short links room most) = -1 := by
    have := low_mem (J := newJ short links room most) (fun e => by have := congrArg List.length e; simp [newJ] at this; omega)
    simpa using (List.mem_replicate.1 this).2
  refine ⟨⟨(numbers_pos short).1, fun e => by have := congrArg List.length e; simp [newJ] at this; omega, fun x hx => by rw [(List.mem_replicate.1 hx).2]; omega, Int.le_refl _, by simp [newJ], fun p hp => by simp [newJ] at hp, by simp [newJ], by simp [newJ]; omega, by simp [newJ]; omega⟩, ?_⟩
  have e : (newJ short links room most).wait = [] := rfl
  have e2 : (newJ short links room most).next = 0 := rfl
  unfold stepJ
  rw [e, hl, e2]
  simp
theorem row_block {W : World} {g c base : Nat} {x : Int} (h : W.heap[g]? = some (.cells (List.replicate c (Value.int .i64 x)).toArray 3 (0, 0))) (hb : base ≤ g) (hc : c ≤ 4096) : (Kd.int .i64).R 3 W base (fun _ => True) (.slice (some ⟨g, 0, none⟩) c c) (List.replicate c x) :=
  Kd.R_of_own (enc := Value.int .i64) (h1 := fun _ => rfl) ⟨by simp [encs], .inr ⟨g, c, _, by simp, hb, h, by simp, by unfold maxLen; omega, by simp, by simp [encs]⟩⟩ (fun _ _ => trivial)

set_option maxHeartbeats 1000000 in
set_option maxRecDepth 100000 in
theorem new_ok (short : Bool) (links room most : Int) (W : World) (hS : Shapes W) (h : mayJ links room most) :
    Calls Tryd.prog 28 #[.bool short, .int .i64 links, .int .i64 room, .int .i64 most] W fun e w' => ∃ g bm vl, e = .returned (.tuple #[.pointer (some ⟨g, 0, none⟩), .int .i64 0]) ∧
      JM w' W.heap.size g bm vl (.slice none 0 0) (.slice none 0 0) [] [] (newJ short links room most) ∧ Below W.heap.size W w' := by
  obtain ⟨h1, h2, h3, h4, h5, h6⟩ := h
  obtain ⟨c, rfl⟩ := Int.eq_ofNat_of_zero_le (show 0 ≤ links by omega)
  have d1 : decide ((c : Int) < 1) = false := decide_eq_false (by omega)
  have d1' : decide (c < 1) = false := decide_eq_false (by omega)
  have d2 : decide ((16 : Int) < (c : Int)) = false := decide_eq_false (by omega)
  have d2' : decide (16 < c) = false := decide_eq_false (by omega)
  have d3 : decide (room < 1) = false := decide_eq_false (by omega)
  have d4 : decide ((4096 : Int) < room) = false := decide_eq_false (by omega)
  have d5 : decide (most < 1) = false := decide_eq_false (by omega)
  have d6 : decide ((1048576 : Int) < most) = false := decide_eq_false (by omega)
  have HC := Aside0.mk (show 1 ≤ c ∧ c ≤ 16 by omega)
  have hmm := @run_makeMap Tryd.prog
  have hmod := mod_any short W hS
  clear h1 h2 h3 h4 h5 h6 hS
  go_enter Tryd.func28, Tryd.ntmps28
  go_wp2_with (first
    | (go_at_call 26; refine hmod.mono ?_; rintro e w1 ⟨rfl, hb1⟩; have HB1 := Aside0.mk hb1; have hnew := new1 w1 (.cells #[.int .i64 (-1)] 3); clear hb1)
    | (go_at_call 43; refine (rep_any _ _ (-1) c HC.out.1 (by have := HC.out.2; omega) hnew).mono ?_; rintro e w2 ⟨rfl, hr2, hb2⟩; have HB2 := Aside0.mk hb2; have HR2 := Aside0.mk hr2; clear hb2 hr2))
  go_ret2
  have hsz1 : (w1.alloc (.cells #[.int .i64 (-1)] 3)).heap.size = w1.heap.size + 1 := World.size_alloc _ _
  have hb1 := HB1.out
  have hb2 := HB2.out
  have hr2 := HR2.out
  have hba := below_alloc (Below.refl w1.heap.size w1) (.cells #[.int .i64 (-1)] 3)
  rw [hsz1] at hb2 hr2
  have hW1 : W.heap.size ≤ w1.heap.size := hb1.size
  have hW2 : w1.heap.size + 1 ≤ w2.heap.size := by have := hb2.size; omega
  have hb3 := below_alloc (Below.refl w2.heap.size w2) (.map #[] 0)
  have hb4 := below_alloc hb3 (.cells #[.int .i64 (numbers short), .int .i64 room, .int .i64 most, .slice (some ⟨w1.heap.size + 1, 0, none⟩) c c, .map (some w2.heap.size), .int .i64 0, .int .i64 0, .slice none 0 0, .slice none 0 0] 102)
  have hr4 := blk_keep hr2 hb4
  have hg4 := new1 (w2.alloc (.map #[] 0)) (.cells #[.int .i64 (numbers short), .int .i64 room, .int .i64 most, .slice (some ⟨w1.heap.size + 1, 0, none⟩) c c, .map (some w2.heap.size), .int .i64 0, .int .i64 0, .slice none 0 0, .slice none 0 0] 102)
  rw [World.size_alloc] at hg4
  have hm4 := (World.ownsMap_made (H := Value) w2 Tryd.prog 3 elemR).alloc (.cells #[.int .i64 (numbers short), .int .i64 room, .int .i64 most, .slice (some ⟨w1.heap.size + 1, 0, none⟩) c c, .map (some w2.heap.size), .int .i64 0, .int .i64 0, .slice none 0 0, .slice none 0 0] 102)
  refine ⟨w2.heap.size + 1, w2.heap.size, .slice (some ⟨w1.heap.size + 1, 0, none⟩) c c, rfl, ⟨hg4, by omega, by omega, row_block hr4 (by omega) (by have := HC.out.2; omega), Kd.R_nil _ _ _ _ _, Kd.R_nil _ _ _ _ _, ⟨rfl, fun j x y hx => by simp [newJ] at hx⟩, hm4, ⟨rfl, fun j x y hx => by simp [newJ] at hx⟩, by simp [newJ]⟩, ?_⟩
  exact ((hb1.trans (hba.mono hW1)).trans (hb2.mono (by omega))).trans (hb4.mono (by omega))

set_option maxHeartbeats 1000000 in
set_option maxRecDepth 100000 in
theorem new_bad (short : Bool) (links room most : Int) (W : World) (h : ¬ mayJ links room most) :
    Calls Tryd.prog 28 #[.bool short, .int .i64 links, .int .i64 room, .int .i64 most] W fun e w' => e = .returned (.tuple #[.pointer none, .int .i64 1]) ∧ w' = W := by
  by_cases a1 : links < 1
  · have d1 : decide (links < 1) = true := decide_eq_true a1
    clear h a1
    go_enter Tryd.func28, Tryd.ntmps28
    go_wp2
    go_ret2
    exact ⟨rfl, rfl⟩
  by_cases a2 : (16 : Int) < links
  · have d2 : decide ((16 : Int) < links) = true := decide_eq_true a2
    have d1 : decide (links < 1) = false := decide_eq_false a1
    clear h a1 a2
    go_enter Tryd.func28, Tryd.ntmps28
    go_wp2
    go_ret2
    exact ⟨rfl, rfl⟩
  by_cases a3 : room < 1
  · have d3 : decide (room < 1) = true := decide_eq_true a3
    have d1 : decide (links < 1) = false := decide_eq_false a1
    have d2 : decide ((16 : Int) < links) = false := decide_eq_false a2
    clear h a1 a2 a3
    go_enter Tryd.func28, Tryd.ntmps28
    go_wp2
    go_ret2
    exact ⟨rfl, rfl⟩
  by_cases a4 : (4096 : Int) < room
  · have d4 : decide ((4096 : Int) < room) = true := decide_eq_true a4
    have d1 : decide (links < 1) = false := decide_eq_false a1
    have d2 : decide ((16 : Int) < links) = false := decide_eq_false a2
    have d3 : decide (room < 1) = false := decide_eq_false a3
    clear h a1 a2 a3 a4
    go_enter Tryd.func28, Tryd.ntmps28
    go_wp2
    go_ret2
    exact ⟨rfl, rfl⟩
  by_cases a5 : most < 1
  · have d5 : decide (most < 1) = true := decide_eq_true a5
    have d1 : decide (links < 1) = false := decide_eq_false a1
    have d2 : decide ((16 : Int) < links) = false := decide_eq_false a2
    have d3 : decide (room < 1) = false := decide_eq_false a3
    have d4 : decide ((4096 : Int) < room) = false := decide_eq_false a4
    clear h a1 a2 a3 a4 a5
    go_enter Tryd.func28, Tryd.ntmps28
    go_wp2
    go_ret2
    exact ⟨rfl, rfl⟩
  by_cases a6 : (1048576 : Int) < most
  · have d6 : decide ((1048576 : Int) < most) = true := decide_eq_true a6
    have d1 : decide (links < 1) = false := decide_eq_false a1
    have d2 : decide ((16 : Int) < links) = false := decide_eq_false a2
    have d3 : decide (room < 1) = false := decide_eq_false a3
    have d4 : decide ((4096 : Int) < room) = false := decide_eq_false a4
    have d5 : decide (most < 1) = false := decide_eq_false a5
    clear h a1 a2 a3 a4 a5 a6
    go_enter Tryd.func28, Tryd.ntmps28
    go_wp2
    go_ret2
    exact ⟨rfl, rfl⟩
  exact absurd ⟨by omega, by omega, by omega, by omega, by omega, by omega⟩ h

end Go.Proofs.YtgopklnfdlnojaaDoor.Nb
