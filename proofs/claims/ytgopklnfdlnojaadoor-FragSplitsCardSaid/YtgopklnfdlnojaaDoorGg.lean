/- The piece that octets are: what frag.Get answers for any octets. Condition: the table of shapes lies as its text lays it; the octets read as a list. -/
import Derived.Test.YtgopklnfdlnojaaDoorGp
import Derived.Deep.RegionHeld3
import Derived.Lib.QuoteBits
namespace Go.Proofs.YtgopklnfdlnojaaDoor.Gg
open Go.RowKit Go.Proofs.YtgopklnfdlnojaaDoor.Ga Go.Proofs.YtgopklnfdlnojaaDoor.My Go.Proofs.YtgopklnfdlnojaaDoor.Gb Go.Proofs.YtgopklnfdlnojaaDoor.Gp Go.Proofs.YtgopklnfdlnojaaDoorW.PrintWords Go.Proofs.YtgopklnfdlnojaaDoorW.PrintLast Go.Proofs.YtgopklnfdlnojaaDoorW.PrintMore
set_option linter.unusedVariables false
set_option linter.unusedSimpArgs false

theorem wrap_i (x : Int) (h0 : 0 ≤ x) (h1 : x < 9223372036854775808) : IntKind.i64.wrap x = x := by
  have := Go.Lib.wrap_i64_small x.toNat (by omega)
  rwa [Int.toNat_of_nonneg h0] at this
def acc (m : Int) (xs : List Int) (k : Nat) : Int := (xs.take k).foldl (fun a x => a * 256 + x) m
theorem or_acc (m b : Int) (h0 : 0 ≤ m) (h1 : m < 16777216) (hb : 0 ≤ b ∧ b ≤ 255) : Go.bits .or .i64 (wrap64 (m * 256)) (wrap64 b) = m * 256 + b := by
  have e1 : wrap64 (m * 256) = m * 256 := by unfold wrap64; omega
  have e2 : wrap64 b = b := by unfold wrap64; omega
  rw [e1, e2]
  obtain ⟨M, rfl⟩ := Int.eq_ofNat_of_zero_le h0
  obtain ⟨B, rfl⟩ := Int.eq_ofNat_of_zero_le hb.1
  have h := (Go.bits_nat .i64 40 (by decide) (fun x hx0 hx1 => wrap_i x hx0 (by omega)) (2 ^ 8 * M) B (by omega) (by omega)).2
  rw [← Nat.two_pow_add_eq_or_of_lt (by omega) M] at h
  have e3 : ((M : Nat) : Int) * 256 = ((2 ^ 8 * M : Nat) : Int) := by omega
  rw [e3, h]
  omega
theorem set2 {W : World} {g t : Nat} {v0 v1 v2 v3 : Value} (h : W.heap[g]? = some (.cells #[v0, v1, v2, v3] t (0, 0))) (v : Value) : (W.setCell ⟨g, 2, none⟩ v).heap[g]? = some (.cells #[v0, v1, v, v3] t (0, 0)) := by
  simp [World.setCell, Array.getElem?_modify, h]
theorem drop_o {w : World} {ad : Addr} {n : Nat} {xs : List Int} (h : (Kd.int .u8).C w (some ad) n xs) (o : Nat) (ho : o ≤ n) (hne : o ≠ 0) :
    (Kd.int .u8).C w (some ⟨ad.block, ad.off + o, none⟩) (n - o) (xs.drop o) ∧ (n = o → (Kd.int .u8).C w (some ad) (n - o) (xs.drop o)) := by
  obtain rfl : xs.length = n := h.1
  rw [← List.length_drop]
  refine ⟨?_, fun hn => ?_⟩
  · have h1 := Kd.C_drop (c := xs.length + 1) h ho (by omega)
    rw [if_neg (by omega)] at h1
    have e : (some ad).map (·.add (o * (Kd.int .u8).sz)) = some ⟨ad.block, ad.off + o, none⟩ := by
      show some (ad.add (o * 1)) = _
      rw [Nat.mul_one, Addr.add, if_neg hne]
    rwa [e] at h1
  · have h1 := Kd.C_drop (c := o) h ho (by omega)
    rwa [if_pos rfl] at h1
theorem free_of {W : World} {g t : Nat} {cs : Array Value} (h : W.heap[g]? = some (.cells cs t (0, 0))) (j : Nat) : W.frozen? ⟨g, j, none⟩ = false := by
  simp [World.frozen?, h]
theorem fin256 {Q : Nat → Prop} (h : ∀ x < 256, Q x) (b : Int) (h0 : 0 ≤ b) (h1 : b ≤ 255) : ∃ x : Nat, b = (x : Int) ∧ Q x :=
  ⟨b.toNat, by omega, h _ (by omega)⟩
theorem bits_all : ∀ x < 256, ((Go.bits .andNot .u8 ((x : Nat) : Int) 207 != 0) = decide (15 < x % 64)) ∧ ((Go.bits .andNot .u8 ((x : Nat) : Int) 192 != 0) = decide (0 < x % 64)) ∧ ((Go.bits .and .u8 ((x : Nat) : Int) 128 != 0) = decide (128 ≤ x)) ∧ ((Go.bits .and .u8 ((x : Nat) : Int) 64 != 0) = decide (x / 64 % 2 = 1)) ∧ Go.bits .and .u8 ((x : Nat) : Int) 15 = ((x % 16 : Nat) : Int) ∧ Go.bits .and .u8 ((x : Nat) : Int) 0 = 0 := by decide +kernel
theorem bits_b (b : Int) (h0 : 0 ≤ b) (h1 : b ≤ 255) : ((Go.bits .andNot .u8 b 207 != 0) = decide (15 < b % 64)) ∧ ((Go.bits .andNot .u8 b 192 != 0) = decide (0 < b % 64)) ∧ ((Go.bits .and .u8 b 128 != 0) = decide (128 ≤ b)) ∧ ((Go.bits .and .u8 b 64 != 0) = decide (b / 64 % 2 = 1)) ∧ Go.bits .and .u8 b 15 = b % 16 ∧ Go.bits .and .u8 b 0 = 0 := by
  obtain ⟨x, rfl, e1, e2, e3, e4, e5, e6⟩ := fin256 bits_all b h0 h1
  refine ⟨e1.trans (decide_eq_decide.2 (by omega)), e2.trans (decide_eq_decide.2 (by omega)), e3.trans (decide_eq_decide.2 (by omega)), e4.trans (decide_eq_decide.2 (by omega)), e5.trans (by omega), e6⟩
theorem or_masks : Go.bits .or .u8 192 15 = 207 ∧ Go.bits .or .u8 192 0 = 192 := by decide +kernel

set_option maxHeartbeats 2000000 in
set_option maxRecDepth 100000 in
theorem get_short2 (A : Option Addr) (n c : Nat) (w : World) (hS : Shapes w) (h : n < 2) :
    Calls Tryd.prog 15 #[.bool true, .slice A n c] w fun e w' => e = .returned (.tuple #[pc false false 0 none 0 0, .int .i64 2]) ∧ Below w.heap.size w w' := by
  have HS := Aside0.mk hS
  have hn : decide ((n : Int) < 2) = true := decide_eq_true (by omega)
  clear hS h
  go_enter Tryd.func15, Tryd.ntmps15
  go_wp2_with (fail)
  refine (of2 _ (HS.out.alloc _)).mono ?_
  rintro e1 w1 ⟨rfl, hb⟩
  have HR := Aside0.mk (blk_keep (new1 w (.cells #[.bool false, .bool false, .int .i64 0, .slice none 0 0] 29)) hb)
  have X := Aside0.mk (below_step (below_alloc (Below.refl _ w) (.cells #[.bool false, .bool false, .int .i64 0, .slice none 0 0] 29)) hb)
  clear hb
  obtain ⟨g4, hg4⟩ : ∃ g, w.heap.size = g := ⟨_, rfl⟩
  have G4 := Aside0.mk (show w.heap.size ≤ g4 from Nat.le_of_eq hg4)
  rw [hg4] at HR ⊢
  clear hg4
  go_upto_region 2 with (fail)
  have HQ := Aside0.mk (new1 w1 (.cells #[.int .i64 2, .int .i64 4096, .int .u8 15] 91))
  have hb := below_alloc (Below.refl _ w1) (.cells #[.int .i64 2, .int .i64 4096, .int .u8 15] 91)
  replace HR := Aside0.mk (blk_keep HR.out hb)
  replace X := Aside0.mk (below_step X.out hb)
  clear hb
  obtain ⟨g6, hg6⟩ : ∃ g, w1.heap.size = g := ⟨_, rfl⟩
  rw [hg6] at HQ ⊢
  clear hg6
  generalize w1.alloc (.cells #[.int .i64 2, .int .i64 4096, .int .u8 15] 91) = w2 at HR HQ X ⊢
  obtain ⟨q0, q1, q2⟩ := cells3 HQ.out
  obtain ⟨r0, r1, r2, r3⟩ := cells4 HR.out
  have fz : ∀ j, w2.frozen? ⟨g4, j, none⟩ = false := free_of HR.out
  go_wp2
  have hres := put_all (vs := [.bool false, .bool false, .int .i64 0, .slice none 0 0]) HR.out rfl
  have hbel := below_puts (o := 0) (vs := [.bool false, .bool false, .int .i64 0, .slice none 0 0]) X.out (g := g4) G4.out
  change bodyPost _ _ _ _ _ (w2.setCells g4 0 [.bool false, .bool false, .int .i64 0, .slice none 0 0])
  generalize w2.setCells g4 0 [.bool false, .bool false, .int .i64 0, .slice none 0 0] = W9 at hres hbel  ⊢
  obtain ⟨s0, s1, s2, s3⟩ := cells4 hres
  exact bodyPost_ret (v := .tuple #[pc (false) (false) (0) (none) (0) (0), .int .i64 2]) (by simp [results, Tryd.results15, go_sem, s0, s1, s2, s3]) rfl ⟨rfl, hbel⟩

set_option maxHeartbeats 2000000 in
set_option maxRecDepth 100000 in
theorem get_short4 (A : Option Addr) (n c : Nat) (w : World) (hS : Shapes w) (h : n < 4) :
    Calls Tryd.prog 15 #[.bool false, .slice A n c] w fun e w' => e = .returned (.tuple #[pc false false 0 none 0 0, .int .i64 2]) ∧ Below w.heap.size w w' := by
  have HS := Aside0.mk hS
  have hn : decide ((n : Int) < 4) = true := decide_eq_true (by omega)
  clear hS h
  go_enter Tryd.func15, Tryd.ntmps15
  go_wp2_with (fail)
  refine (of4 _ (HS.out.alloc _)).mono ?_
  rintro e1 w1 ⟨rfl, hb⟩
  have HR := Aside0.mk (blk_keep (new1 w (.cells #[.bool false, .bool false, .int .i64 0, .slice none 0 0] 29)) hb)
  have X := Aside0.mk (below_step (below_alloc (Below.refl _ w) (.cells #[.bool false, .bool false, .int .i64 0, .slice none 0 0] 29)) hb)
  clear hb
  obtain ⟨g4, hg4⟩ : ∃ g, w.heap.size = g := ⟨_, rfl⟩
  have G4 := Aside0.mk (show w.heap.size ≤ g4 from Nat.le_of_eq hg4)
  rw [hg4] at HR ⊢
  clear hg4
  go_upto_region 2 with (fail)
  have HQ := Aside0.mk (new1 w1 (.cells #[.int .i64 4, .int .i64 16777216, .int .u8 0] 91))
  have hb := below_alloc (Below.refl _ w1) (.cells #[.int .i64 4, .int .i64 16777216, .int .u8 0] 91)
  replace HR := Aside0.mk (blk_keep HR.out hb)
  replace X := Aside0.mk (below_step X.out hb)
  clear hb
  obtain ⟨g6, hg6⟩ : ∃ g, w1.heap.size = g := ⟨_, rfl⟩
  rw [hg6] at HQ ⊢
  clear hg6
  generalize w1.alloc (.cells #[.int .i64 4, .int .i64 16777216, .int .u8 0] 91) = w2 at HR HQ X ⊢
  obtain ⟨q0, q1, q2⟩ := cells3 HQ.out
  obtain ⟨r0, r1, r2, r3⟩ := cells4 HR.out
  have fz : ∀ j, w2.frozen? ⟨g4, j, none⟩ = false := free_of HR.out
  go_wp2
  have hres := put_all (vs := [.bool false, .bool false, .int .i64 0, .slice none 0 0]) HR.out rfl
  have hbel := below_puts (o := 0) (vs := [.bool false, .bool false, .int .i64 0, .slice none 0 0]) X.out (g := g4) G4.out
  change bodyPost _ _ _ _ _ (w2.setCells g4 0 [.bool false, .bool false, .int .i64 0, .slice none 0 0])
  generalize w2.setCells g4 0 [.bool false, .bool false, .int .i64 0, .slice none 0 0] = W9 at hres hbel  ⊢
  obtain ⟨s0, s1, s2, s3⟩ := cells4 hres
  exact bodyPost_ret (v := .tuple #[pc (false) (false) (0) (none) (0) (0), .int .i64 2]) (by simp [results, Tryd.results15, go_sem, s0, s1, s2, s3]) rfl ⟨rfl, hbel⟩

set_option maxHeartbeats 2000000 in
set_option maxRecDepth 100000 in
theorem get_bad2 (ad : Addr) (n c : Nat) (b0 : Int) (w : World) (hS : Shapes w) (h : 2 ≤ n) (hc : w.cell? ad = some (.int .u8 b0)) (hb0 : 0 ≤ b0) (hb1 : b0 ≤ 255) (hbad : 15 < b0 % 64) :
    Calls Tryd.prog 15 #[.bool true, .slice (some ad) n c] w fun e w' => e = .returned (.tuple #[pc false false 0 none 0 0, .int .i64 4]) ∧ Below w.heap.size w w' := by
  have HS := Aside0.mk hS
  have HC := Aside0.mk hc
  have hn : decide ((n : Int) < 2) = false := decide_eq_false (by omega)
  have hn1 : (0 : Int) < (n : Int) := by omega
  have hn2 : 0 < n := by omega
  have HB := Aside0.mk ((bits_b b0 hb0 hb1).1.trans (decide_eq_true hbad))
  have HO := Aside0.mk or_masks.1
  clear hS h hc hbad
  go_enter Tryd.func15, Tryd.ntmps15
  go_wp2_with (fail)
  refine (of2 _ (HS.out.alloc _)).mono ?_
  rintro e1 w1 ⟨rfl, hb⟩
  have HR := Aside0.mk (blk_keep (new1 w (.cells #[.bool false, .bool false, .int .i64 0, .slice none 0 0] 29)) hb)
  have X := Aside0.mk (below_step (below_alloc (Below.refl _ w) (.cells #[.bool false, .bool false, .int .i64 0, .slice none 0 0] 29)) hb)
  clear hb
  obtain ⟨g4, hg4⟩ : ∃ g, w.heap.size = g := ⟨_, rfl⟩
  have G4 := Aside0.mk (show w.heap.size ≤ g4 from Nat.le_of_eq hg4)
  rw [hg4] at HR ⊢
  clear hg4
  go_upto_region 2 with (fail)
  have HQ := Aside0.mk (new1 w1 (.cells #[.int .i64 2, .int .i64 4096, .int .u8 15] 91))
  have hb := below_alloc (Below.refl _ w1) (.cells #[.int .i64 2, .int .i64 4096, .int .u8 15] 91)
  replace HR := Aside0.mk (blk_keep HR.out hb)
  replace X := Aside0.mk (below_step X.out hb)
  clear hb
  obtain ⟨g6, hg6⟩ : ∃ g, w1.heap.size = g := ⟨_, rfl⟩
  rw [hg6] at HQ ⊢
  clear hg6
  generalize w1.alloc (.cells #[.int .i64 2, .int .i64 4096, .int .u8 15] 91) = w2 at HR HQ X ⊢
  obtain ⟨q0, q1, q2⟩ := cells3 HQ.out
  have hcell := pw_cell_below X.out HC.out
  go_wp2_with (fail)
  have hor := HO.out
  have hbit := HB.out
  go_quiet (fail)
  have hb := pw_below_drewN (Below.refl w2.heap.size w2) nq
  have HR3 := Aside0.mk (blk_keep HR.out hb)
  have X3 := Aside0.mk (below_step X.out hb)
  clear hor hbit q0 q1 q2 hb hcell
  generalize w2.drewN nq = w3 at HR3 X3 ⊢
  obtain ⟨r0, r1, r2, r3⟩ := cells4 HR3.out
  have fz : ∀ j, w3.frozen? ⟨g4, j, none⟩ = false := free_of HR3.out
  go_wp2
  have hres := put_all (vs := [.bool false, .bool false, .int .i64 0, .slice none 0 0]) HR3.out rfl
  have hbel := below_puts (o := 0) (vs := [.bool false, .bool false, .int .i64 0, .slice none 0 0]) X3.out (g := g4) G4.out
  change bodyPost _ _ _ _ _ (w3.setCells g4 0 [.bool false, .bool false, .int .i64 0, .slice none 0 0])
  generalize w3.setCells g4 0 [.bool false, .bool false, .int .i64 0, .slice none 0 0] = W9 at hres hbel  ⊢
  obtain ⟨s0, s1, s2, s3⟩ := cells4 hres
  exact bodyPost_ret (v := .tuple #[pc (false) (false) (0) (none) (0) (0), .int .i64 4]) (by simp [results, Tryd.results15, go_sem, s0, s1, s2, s3]) rfl ⟨rfl, hbel⟩

set_option maxHeartbeats 2000000 in
set_option maxRecDepth 100000 in
theorem get_bad4 (ad : Addr) (n c : Nat) (b0 : Int) (w : World) (hS : Shapes w) (h : 4 ≤ n) (hc : w.cell? ad = some (.int .u8 b0)) (hb0 : 0 ≤ b0) (hb1 : b0 ≤ 255) (hbad : 0 < b0 % 64) :
    Calls Tryd.prog 15 #[.bool false, .slice (some ad) n c] w fun e w' => e = .returned (.tuple #[pc false false 0 none 0 0, .int .i64 4]) ∧ Below w.heap.size w w' := by
  have HS := Aside0.mk hS
  have HC := Aside0.mk hc
  have hn : decide ((n : Int) < 4) = false := decide_eq_false (by omega)
  have hn1 : (0 : Int) < (n : Int) := by omega
  have hn2 : 0 < n := by omega
  have HB := Aside0.mk ((bits_b b0 hb0 hb1).2.1.trans (decide_eq_true hbad))
  have HO := Aside0.mk or_masks.2
  clear hS h hc hbad
  go_enter Tryd.func15, Tryd.ntmps15
  go_wp2_with (fail)
  refine (of4 _ (HS.out.alloc _)).mono ?_
  rintro e1 w1 ⟨rfl, hb⟩
  have HR := Aside0.mk (blk_keep (new1 w (.cells #[.bool false, .bool false, .int .i64 0, .slice none 0 0] 29)) hb)
  have X := Aside0.mk (below_step (below_alloc (Below.refl _ w) (.cells #[.bool false, .bool false, .int .i64 0, .slice none 0 0] 29)) hb)
  clear hb
  obtain ⟨g4, hg4⟩ : ∃ g, w.heap.size = g := ⟨_, rfl⟩
  have G4 := Aside0.mk (show w.heap.size ≤ g4 from Nat.le_of_eq hg4)
  rw [hg4] at HR ⊢
  clear hg4
  go_upto_region 2 with (fail)
  have HQ := Aside0.mk (new1 w1 (.cells #[.int .i64 4, .int .i64 16777216, .int .u8 0] 91))
  have hb := below_alloc (Below.refl _ w1) (.cells #[.int .i64 4, .int .i64 16777216, .int .u8 0] 91)
  replace HR := Aside0.mk (blk_keep HR.out hb)
  replace X := Aside0.mk (below_step X.out hb)
  clear hb
  obtain ⟨g6, hg6⟩ : ∃ g, w1.heap.size = g := ⟨_, rfl⟩
  rw [hg6] at HQ ⊢
  clear hg6
  generalize w1.alloc (.cells #[.int .i64 4, .int .i64 16777216, .int .u8 0] 91) = w2 at HR HQ X ⊢
  obtain ⟨q0, q1, q2⟩ := cells3 HQ.out
  have hcell := pw_cell_below X.out HC.out
  go_wp2_with (fail)
  have hor := HO.out
  have hbit := HB.out
  go_quiet (fail)
  have hb := pw_below_drewN (Below.refl w2.heap.size w2) nq
  have HR3 := Aside0.mk (blk_keep HR.out hb)
  have X3 := Aside0.mk (below_step X.out hb)
  clear hor hbit q0 q1 q2 hb hcell
  generalize w2.drewN nq = w3 at HR3 X3 ⊢
  obtain ⟨r0, r1, r2, r3⟩ := cells4 HR3.out
  have fz : ∀ j, w3.frozen? ⟨g4, j, none⟩ = false := free_of HR3.out
  go_wp2
  have hres := put_all (vs := [.bool false, .bool false, .int .i64 0, .slice none 0 0]) HR3.out rfl
  have hbel := below_puts (o := 0) (vs := [.bool false, .bool false, .int .i64 0, .slice none 0 0]) X3.out (g := g4) G4.out
  change bodyPost _ _ _ _ _ (w3.setCells g4 0 [.bool false, .bool false, .int .i64 0, .slice none 0 0])
  generalize w3.setCells g4 0 [.bool false, .bool false, .int .i64 0, .slice none 0 0] = W9 at hres hbel  ⊢
  obtain ⟨s0, s1, s2, s3⟩ := cells4 hres
  exact bodyPost_ret (v := .tuple #[pc (false) (false) (0) (none) (0) (0), .int .i64 4]) (by simp [results, Tryd.results15, go_sem, s0, s1, s2, s3]) rfl ⟨rfl, hbel⟩

set_option maxHeartbeats 4000000 in
set_option maxRecDepth 100000 in
theorem get_yes2 (ad : Addr) (n c : Nat) (b0 b1 : Int) (rest : List Int) (w : World) (hS : Shapes w) (hc : (Kd.int .u8).C w (some ad) n (b0 :: b1 :: rest)) (hnc : n ≤ c) (hn9 : n ≤ 100000) (hbb : ∀ x ∈ b0 :: b1 :: rest, 0 ≤ x ∧ x ≤ 255) (hgood : b0 % 64 ≤ 15) :
    Calls Tryd.prog 15 #[.bool true, .slice (some ad) n c] w fun e w' => ∃ A' c', e = .returned (.tuple #[pc (decide (128 ≤ b0)) (decide (b0 / 64 % 2 = 1)) (b0 % 16 * 256 + b1) A' (n - 2) c', .int .i64 0]) ∧ n - 2 ≤ c' ∧ (Kd.int .u8).C w' A' (n - 2) rest ∧ Below w.heap.size w w' := by
  have hl := hc.1
  simp only [List.length_cons] at hl
  have hb0 := hbb b0 (by simp)
  have HS := Aside0.mk hS
  have HC := Aside0.mk hc
  have HNC := Aside0.mk hnc
  have HN9 := Aside0.mk hn9
  have HBB := Aside0.mk hbb
  have HL := Aside0.mk hl
  have hn : decide ((n : Int) < 2) = false := decide_eq_false (by omega)
  have hn1 : (0 : Int) < (n : Int) := by omega
  have hn2 : 0 < n := by omega
  have hbits := bits_b b0 hb0.1 hb0.2
  have HB := Aside0.mk (hbits.1.trans (decide_eq_false (by omega)))
  have HB1 := Aside0.mk hbits.2.2.1
  have HB2 := Aside0.mk hbits.2.2.2.1
  have HB3 := Aside0.mk hbits.2.2.2.2.1
  have HO := Aside0.mk or_masks.1
  have hc0 : w.cell? ad = some (.int .u8 b0) := by
    obtain ⟨ad', he, hcc⟩ := Kd.at_int hc 0 (by omega) (by omega)
    cases he
    have e : (ad.add (0 : Int).toNat) = ad := Addr.add_zero' ad
    rw [e] at hcc
    exact hcc
  have HC0 := Aside0.mk hc0
  clear hS hc hgood hbb hbits hl hnc hn9 hc0 hb0
  go_enter Tryd.func15, Tryd.ntmps15
  go_wp2_with (fail)
  refine (of2 _ (HS.out.alloc _)).mono ?_
  rintro e1 w1 ⟨rfl, hb⟩
  have HR := Aside0.mk (blk_keep (new1 w (.cells #[.bool false, .bool false, .int .i64 0, .slice none 0 0] 29)) hb)
  have X := Aside0.mk (below_step (below_alloc (Below.refl _ w) (.cells #[.bool false, .bool false, .int .i64 0, .slice none 0 0] 29)) hb)
  clear hb
  obtain ⟨g4, hg4⟩ : ∃ g, w.heap.size = g := ⟨_, rfl⟩
  have G4 := Aside0.mk (show w.heap.size ≤ g4 from Nat.le_of_eq hg4)
  rw [hg4] at HR ⊢
  clear hg4
  go_upto_region 2 with (fail)
  have HQ := Aside0.mk (new1 w1 (.cells #[.int .i64 2, .int .i64 4096, .int .u8 15] 91))
  have hb := below_alloc (Below.refl _ w1) (.cells #[.int .i64 2, .int .i64 4096, .int .u8 15] 91)
  replace HR := Aside0.mk (blk_keep HR.out hb)
  replace X := Aside0.mk (below_step X.out hb)
  clear hb
  obtain ⟨g6, hg6⟩ : ∃ g, w1.heap.size = g := ⟨_, rfl⟩
  rw [hg6] at HQ ⊢
  clear hg6
  generalize w1.alloc (.cells #[.int .i64 2, .int .i64 4096, .int .u8 15] 91) = w2 at HR HQ X ⊢
  obtain ⟨q0, q1, q2⟩ := cells3 HQ.out
  have hcell := pw_cell_below X.out HC0.out
  go_wp2_with (fail)
  have hor := HO.out
  have hbit := HB.out
  go_quiet (fail)
  have hb := pw_below_drewN (Below.refl w2.heap.size w2) nq
  have HR3 := Aside0.mk (blk_keep HR.out hb)
  have HQ3 := Aside0.mk (blk_keep HQ.out hb)
  have X3 := Aside0.mk (below_step X.out hb)
  clear hor hbit q0 q1 q2 hb hcell HR HQ X
  generalize w2.drewN nq = w3 at HR3 HQ3 X3 ⊢
  go_wp2_with (fail)
  have HR3w := Aside0.mk HR3.out
  have HQ3w := Aside0.mk HQ3.out
  obtain ⟨q0, q1, q2⟩ := cells3 HQ3.out
  have hcell := pw_cell_below X3.out HC0.out
  have hb128 := HB1.out
  have hb64 := HB2.out
  have hbm := HB3.out
  go_region_held3 (fun w' => w'.cell? ad = some (.int .u8 b0) ∧ w'.cell? ⟨g6, 2, none⟩ = some (.int .u8 15)) (first | go_keep) (first | fail)
  rw [wrap_i (b0 % 16) (by omega) (by omega)]
  have HP7 := Aside0.mk (show (w3.alloc (.cells #[.bool (decide (128 ≤ b0)), .bool (decide (b0 / 64 % 2 = 1)), .int .i64 (b0 % 16), .slice none 0 0] 29)).drew.heap[w3.heap.size]? = _ from new1 w3 (.cells #[.bool (decide (128 ≤ b0)), .bool (decide (b0 / 64 % 2 = 1)), .int .i64 (b0 % 16), .slice none 0 0] 29))
  have hb := (below_alloc (Below.refl _ w3) (.cells #[.bool (decide (128 ≤ b0)), .bool (decide (b0 / 64 % 2 = 1)), .int .i64 (b0 % 16), .slice none 0 0] 29)).drew
  replace HR3 := Aside0.mk (blk_keep HR3.out hb)
  replace HQ3 := Aside0.mk (blk_keep HQ3.out hb)
  have hs3 : w.heap.size ≤ w3.heap.size := X3.out.size
  have h64 : g4 < w3.heap.size := (Array.getElem?_eq_some_iff.1 HR3w.out).1
  have h66 : g6 < w3.heap.size := (Array.getElem?_eq_some_iff.1 HQ3w.out).1
  replace X3 := Aside0.mk (below_step X3.out hb)
  clear hb
  obtain ⟨g7, hg7⟩ : ∃ g, w3.heap.size = g := ⟨_, rfl⟩
  rw [hg7] at HP7 hs3 h64 h66 ⊢
  generalize (w3.alloc (.cells #[.bool (decide (128 ≤ b0)), .bool (decide (b0 / 64 % 2 = 1)), .int .i64 (b0 % 16), .slice none 0 0] 29)).drew = w4 at HP7 HR3 HQ3 X3 ⊢
  clear hg7 q0 q1 q2 hcell hb128 hb64 hbm HB HB1 HB2 HB3 HO HC0 HR3w HQ3w
  have HC4 := Aside0.mk (Kd.C_below HC.out X3.out)
  obtain ⟨q0, q1, q2⟩ := cells3 HQ3.out
  have G7 := Aside0.mk (And.intro hs3 (And.intro h64 h66))
  clear hs3 h64 h66
  have hn3 : (2 : Int) ≤ (n : Int) ∧ n ≤ c := ⟨by have := HL.out; omega, HNC.out⟩
  go_wp2_with (fail)
  clear q0 q1 q2 hn3 hn hn1 hn2
  have hj : 2 ≤ n := by have := HL.out; omega
  go_loopw [52, 9] (fun v52 v9 wr => ∃ k : Nat, k ≤ 1 ∧ v52 = .int .i64 (k : Int) ∧ Aside0 (wr.heap[g7]? = some (.cells #[.bool (decide (128 ≤ b0)), .bool (decide (b0 / 64 % 2 = 1)), .int .i64 (acc (b0 % 16) [b1] k), .slice none 0 0] 29 (0, 0))) ∧ Aside0 (Below g7 w4 wr)) (fun v52 _ _ => (1 - intOf v52).toNat)
  case atStart => exact ⟨0, Nat.zero_le _, rfl, HP7, ⟨Below.refl _ _⟩⟩
  case round =>
    obtain ⟨k, hk, rfl, HPk, HBk⟩ := hrel
    have hcase : k = 0 ∨ k = 1 := by omega
    rcases hcase with rfl | rfl
    · obtain ⟨p0, p1, p2, p3⟩ := cells4 HPk.out
      have fz : ∀ j, wr.frozen? ⟨g7, j, none⟩ = false := free_of HPk.out
      have hcl : wr.cell? ⟨ad.block, ad.off + 1, none⟩ = some (.int .u8 b1) := by
        obtain ⟨ad', he, hcc⟩ := Kd.at_int (Kd.C_below HC.out (X3.out.trans (HBk.out.mono G7.out.1))) 1 (by decide) (by omega)
        cases he
        exact hcc
      have HO1 := Aside0.mk (or_acc (acc (b0 % 16) [b1] 0) b1 (by have := HBB.out b0 (by simp); have := HBB.out b1 (by simp); simp only [acc, List.take, List.foldl]; omega) (by have := HBB.out b0 (by simp); have := HBB.out b1 (by simp); simp only [acc, List.take, List.foldl]; omega) (HBB.out b1 (by simp)))
      go_wp2_with (fail)
      have hor := HO1.out
      rw [hor]
      clear hor
      refine ⟨⟨1, by decide, rfl, ⟨set2 HPk.out _⟩, ⟨Below.setCell HBk.out (Nat.le_refl _) _⟩⟩, by decide⟩
    · have XR := Aside0.mk (X3.out.trans (HBk.out.mono G7.out.1))
      have hb := HBk.out
      replace HR3 := Aside0.mk ((hb.block g4 G7.out.2.1).trans HR3.out)
      replace HQ3 := Aside0.mk ((hb.block g6 G7.out.2.2).trans HQ3.out)
      obtain ⟨q0, q1, q2⟩ := cells3 HQ3.out
      clear hb
      have hn3 : (2 : Int) ≤ (n : Int) ∧ n ≤ c := ⟨by have := HL.out; omega, HNC.out⟩
      have HT := Aside0.mk (drop_o (Kd.C_below HC.out XR.out) 2 (by have := HL.out; omega) (by decide))
      go_wp2_with (fail)
      all_goals
        have hn9 := HN9.out
        refine (clone_any _ _ _ rest wr (by first | exact HT.out.1 | exact HT.out.2 (by omega)) (by omega) (by simp) (by omega)).mono ?_
        rintro e W ⟨A', c', rfl, hcc, hRc, hB⟩
        have HPW := Aside0.mk (blk_keep HPk.out hB)
        have HRW := Aside0.mk (blk_keep HR3.out hB)
        have XW := Aside0.mk (below_step XR.out hB)
        have HCC := Aside0.mk hcc
        have HRC := Aside0.mk hRc
        have hgr : g7 < wr.heap.size := (Array.getElem?_eq_some_iff.1 HPk.out).1
        have HGR := Aside0.mk hgr
        clear hcc hRc hB q0 q1 q2 hn3 hn9 hgr
        obtain ⟨p0, p1, p2, p3⟩ := cells4 HPW.out
        have fz : ∀ j, W.frozen? ⟨g7, j, none⟩ = false := free_of HPW.out
        obtain ⟨r0, r1, r2, r3⟩ := cells4 HRW.out
        have fz4 : ∀ j, W.frozen? ⟨g4, j, none⟩ = false := free_of HRW.out
        have hne : g4 ≠ g7 := by have := G7.out.2.1; omega
        go_wp2_with (fail)
        change bodyPost _ _ _ _ _ ((W.setCells g7 3 [.slice A' (n - 2) c']).setCells g4 0 [.bool (decide (128 ≤ b0)), .bool (decide (b0 / 64 % 2 = 1)), .int .i64 (acc (b0 % 16) [b1] 1), .slice A' (n - 2) c'])
        have hRW5 : (W.setCells g7 3 [.slice A' (n - 2) c']).heap[g4]? = _ := (setCells_far [.slice A' (n - 2) c'] 3 g4 hne (w := W)).trans HRW.out
        have XW5 := below_puts (o := 3) (vs := [.slice A' (n - 2) c']) XW.out (g := g7) G7.out.1
        have HRC5 := R_puts (o := 3) (vs := [.slice A' (n - 2) c']) HRC.out (g := g7) HGR.out
        have hres := put_all (vs := [.bool (decide (128 ≤ b0)), .bool (decide (b0 / 64 % 2 = 1)), .int .i64 (acc (b0 % 16) [b1] 1), .slice A' (n - 2) c']) hRW5 rfl
        have hbel := below_puts (o := 0) (vs := [.bool (decide (128 ≤ b0)), .bool (decide (b0 / 64 % 2 = 1)), .int .i64 (acc (b0 % 16) [b1] 1), .slice A' (n - 2) c']) XW5 (g := g4) G4.out
        have hRC := R_puts (o := 0) (vs := [.bool (decide (128 ≤ b0)), .bool (decide (b0 / 64 % 2 = 1)), .int .i64 (acc (b0 % 16) [b1] 1), .slice A' (n - 2) c']) HRC5 (g := g4) (by have := G7.out.2.1; have := HGR.out; omega)
        generalize (W.setCells g7 3 [.slice A' (n - 2) c']).setCells g4 0 [.bool (decide (128 ≤ b0)), .bool (decide (b0 / 64 % 2 = 1)), .int .i64 (acc (b0 % 16) [b1] 1), .slice A' (n - 2) c'] = W9 at hres hbel hRC ⊢
        obtain ⟨s0, s1, s2, s3⟩ := cells4 hres
        have hacc : acc (b0 % 16) [b1] 1 = b0 % 16 * 256 + b1 := by simp only [acc, List.take, List.foldl] <;> omega
        rw [hacc] at s2
        have hCC := Kd.R_reads' hRC
        exact bodyPost_ret (v := .tuple #[pc (decide (128 ≤ b0)) (decide (b0 / 64 % 2 = 1)) (b0 % 16 * 256 + b1) A' (n - 2) c', .int .i64 0]) (by simp [results, Tryd.results15, go_sem, s0, s1, s2, s3]) rfl ⟨A', c', rfl, HCC.out, by rw [hCC.1]; exact hCC.2.2, hbel⟩

set_option maxHeartbeats 4000000 in
set_option maxRecDepth 100000 in
theorem get_yes4 (ad : Addr) (n c : Nat) (b0 b1 b2 b3 : Int) (rest : List Int) (w : World) (hS : Shapes w) (hc : (Kd.int .u8).C w (some ad) n (b0 :: b1 :: b2 :: b3 :: rest)) (hnc : n ≤ c) (hn9 : n ≤ 100000) (hbb : ∀ x ∈ b0 :: b1 :: b2 :: b3 :: rest, 0 ≤ x ∧ x ≤ 255) (hgood : b0 % 64 ≤ 0) :
    Calls Tryd.prog 15 #[.bool false, .slice (some ad) n c] w fun e w' => ∃ A' c', e = .returned (.tuple #[pc (decide (128 ≤ b0)) (decide (b0 / 64 % 2 = 1)) (b1 * 65536 + b2 * 256 + b3) A' (n - 4) c', .int .i64 0]) ∧ n - 4 ≤ c' ∧ (Kd.int .u8).C w' A' (n - 4) rest ∧ Below w.heap.size w w' := by
  have hl := hc.1
  simp only [List.length_cons] at hl
  have hb0 := hbb b0 (by simp)
  have HS := Aside0.mk hS
  have HC := Aside0.mk hc
  have HNC := Aside0.mk hnc
  have HN9 := Aside0.mk hn9
  have HBB := Aside0.mk hbb
  have HL := Aside0.mk hl
  have hn : decide ((n : Int) < 4) = false := decide_eq_false (by omega)
  have hn1 : (0 : Int) < (n : Int) := by omega
  have hn2 : 0 < n := by omega
  have hbits := bits_b b0 hb0.1 hb0.2
  have HB := Aside0.mk (hbits.2.1.trans (decide_eq_false (by omega)))
  have HB1 := Aside0.mk hbits.2.2.1
  have HB2 := Aside0.mk hbits.2.2.2.1
  have HB3 := Aside0.mk hbits.2.2.2.2.2
  have HO := Aside0.mk or_masks.2
  have hc0 : w.cell? ad = some (.int .u8 b0) := by
    obtain ⟨ad', he, hcc⟩ := Kd.at_int hc 0 (by omega) (by omega)
    cases he
    have e : (ad.add (0 : Int).toNat) = ad := Addr.add_zero' ad
    rw [e] at hcc
    exact hcc
  have HC0 := Aside0.mk hc0
  clear hS hc hgood hbb hbits hl hnc hn9 hc0 hb0
  go_enter Tryd.func15, Tryd.ntmps15
  go_wp2_with (fail)
  refine (of4 _ (HS.out.alloc _)).mono ?_
  rintro e1 w1 ⟨rfl, hb⟩
  have HR := Aside0.mk (blk_keep (new1 w (.cells #[.bool false, .bool false, .int .i64 0, .slice none 0 0] 29)) hb)
  have X := Aside0.mk (below_step (below_alloc (Below.refl _ w) (.cells #[.bool false, .bool false, .int .i64 0, .slice none 0 0] 29)) hb)
  clear hb
  obtain ⟨g4, hg4⟩ : ∃ g, w.heap.size = g := ⟨_, rfl⟩
  have G4 := Aside0.mk (show w.heap.size ≤ g4 from Nat.le_of_eq hg4)
  rw [hg4] at HR ⊢
  clear hg4
  go_upto_region 2 with (fail)
  have HQ := Aside0.mk (new1 w1 (.cells #[.int .i64 4, .int .i64 16777216, .int .u8 0] 91))
  have hb := below_alloc (Below.refl _ w1) (.cells #[.int .i64 4, .int .i64 16777216, .int .u8 0] 91)
  replace HR := Aside0.mk (blk_keep HR.out hb)
  replace X := Aside0.mk (below_step X.out hb)
  clear hb
  obtain ⟨g6, hg6⟩ : ∃ g, w1.heap.size = g := ⟨_, rfl⟩
  rw [hg6] at HQ ⊢
  clear hg6
  generalize w1.alloc (.cells #[.int .i64 4, .int .i64 16777216, .int .u8 0] 91) = w2 at HR HQ X ⊢
  obtain ⟨q0, q1, q2⟩ := cells3 HQ.out
  have hcell := pw_cell_below X.out HC0.out
  go_wp2_with (fail)
  have hor := HO.out
  have hbit := HB.out
  go_quiet (fail)
  have hb := pw_below_drewN (Below.refl w2.heap.size w2) nq
  have HR3 := Aside0.mk (blk_keep HR.out hb)
  have HQ3 := Aside0.mk (blk_keep HQ.out hb)
  have X3 := Aside0.mk (below_step X.out hb)
  clear hor hbit q0 q1 q2 hb hcell HR HQ X
  generalize w2.drewN nq = w3 at HR3 HQ3 X3 ⊢
  go_wp2_with (fail)
  have HR3w := Aside0.mk HR3.out
  have HQ3w := Aside0.mk HQ3.out
  obtain ⟨q0, q1, q2⟩ := cells3 HQ3.out
  have hcell := pw_cell_below X3.out HC0.out
  have hb128 := HB1.out
  have hb64 := HB2.out
  have hbm := HB3.out
  go_region_held3 (fun w' => w'.cell? ad = some (.int .u8 b0) ∧ w'.cell? ⟨g6, 2, none⟩ = some (.int .u8 0)) (first | go_keep) (first | fail)
  rw [wrap_i (0) (by omega) (by omega)]
  have HP7 := Aside0.mk (show (w3.alloc (.cells #[.bool (decide (128 ≤ b0)), .bool (decide (b0 / 64 % 2 = 1)), .int .i64 (0), .slice none 0 0] 29)).drew.heap[w3.heap.size]? = _ from new1 w3 (.cells #[.bool (decide (128 ≤ b0)), .bool (decide (b0 / 64 % 2 = 1)), .int .i64 (0), .slice none 0 0] 29))
  have hb := (below_alloc (Below.refl _ w3) (.cells #[.bool (decide (128 ≤ b0)), .bool (decide (b0 / 64 % 2 = 1)), .int .i64 (0), .slice none 0 0] 29)).drew
  replace HR3 := Aside0.mk (blk_keep HR3.out hb)
  replace HQ3 := Aside0.mk (blk_keep HQ3.out hb)
  have hs3 : w.heap.size ≤ w3.heap.size := X3.out.size
  have h64 : g4 < w3.heap.size := (Array.getElem?_eq_some_iff.1 HR3w.out).1
  have h66 : g6 < w3.heap.size := (Array.getElem?_eq_some_iff.1 HQ3w.out).1
  replace X3 := Aside0.mk (below_step X3.out hb)
  clear hb
  obtain ⟨g7, hg7⟩ : ∃ g, w3.heap.size = g := ⟨_, rfl⟩
  rw [hg7] at HP7 hs3 h64 h66 ⊢
  generalize (w3.alloc (.cells #[.bool (decide (128 ≤ b0)), .bool (decide (b0 / 64 % 2 = 1)), .int .i64 (0), .slice none 0 0] 29)).drew = w4 at HP7 HR3 HQ3 X3 ⊢
  clear hg7 q0 q1 q2 hcell hb128 hb64 hbm HB HB1 HB2 HB3 HO HC0 HR3w HQ3w
  have HC4 := Aside0.mk (Kd.C_below HC.out X3.out)
  obtain ⟨q0, q1, q2⟩ := cells3 HQ3.out
  have G7 := Aside0.mk (And.intro hs3 (And.intro h64 h66))
  clear hs3 h64 h66
  have hn3 : (4 : Int) ≤ (n : Int) ∧ n ≤ c := ⟨by have := HL.out; omega, HNC.out⟩
  go_wp2_with (fail)
  clear q0 q1 q2 hn3 hn hn1 hn2
  have hj : 4 ≤ n := by have := HL.out; omega
  go_loopw [52, 9] (fun v52 v9 wr => ∃ k : Nat, k ≤ 3 ∧ v52 = .int .i64 (k : Int) ∧ Aside0 (wr.heap[g7]? = some (.cells #[.bool (decide (128 ≤ b0)), .bool (decide (b0 / 64 % 2 = 1)), .int .i64 (acc (0) [b1, b2, b3] k), .slice none 0 0] 29 (0, 0))) ∧ Aside0 (Below g7 w4 wr)) (fun v52 _ _ => (3 - intOf v52).toNat)
  case atStart => exact ⟨0, Nat.zero_le _, rfl, HP7, ⟨Below.refl _ _⟩⟩
  case round =>
    obtain ⟨k, hk, rfl, HPk, HBk⟩ := hrel
    have hcase : k = 0 ∨ k = 1 ∨ k = 2 ∨ k = 3 := by omega
    rcases hcase with rfl | rfl | rfl | rfl
    · obtain ⟨p0, p1, p2, p3⟩ := cells4 HPk.out
      have fz : ∀ j, wr.frozen? ⟨g7, j, none⟩ = false := free_of HPk.out
      have hcl : wr.cell? ⟨ad.block, ad.off + 1, none⟩ = some (.int .u8 b1) := by
        obtain ⟨ad', he, hcc⟩ := Kd.at_int (Kd.C_below HC.out (X3.out.trans (HBk.out.mono G7.out.1))) 1 (by decide) (by omega)
        cases he
        exact hcc
      have HO1 := Aside0.mk (or_acc (acc (0) [b1, b2, b3] 0) b1 (by have := HBB.out b0 (by simp); have := HBB.out b1 (by simp); have := HBB.out b2 (by simp); have := HBB.out b3 (by simp); simp only [acc, List.take, List.foldl]; omega) (by have := HBB.out b0 (by simp); have := HBB.out b1 (by simp); have := HBB.out b2 (by simp); have := HBB.out b3 (by simp); simp only [acc, List.take, List.foldl]; omega) (HBB.out b1 (by simp)))
      go_wp2_with (fail)
      have hor := HO1.out
      rw [hor]
      clear hor
      refine ⟨⟨1, by decide, rfl, ⟨set2 HPk.out _⟩, ⟨Below.setCell HBk.out (Nat.le_refl _) _⟩⟩, by decide⟩
    · obtain ⟨p0, p1, p2, p3⟩ := cells4 HPk.out
      have fz : ∀ j, wr.frozen? ⟨g7, j, none⟩ = false := free_of HPk.out
      have hcl : wr.cell? ⟨ad.block, ad.off + 2, none⟩ = some (.int .u8 b2) := by
        obtain ⟨ad', he, hcc⟩ := Kd.at_int (Kd.C_below HC.out (X3.out.trans (HBk.out.mono G7.out.1))) 2 (by decide) (by omega)
        cases he
        exact hcc
      have HO1 := Aside0.mk (or_acc (acc (0) [b1, b2, b3] 1) b2 (by have := HBB.out b0 (by simp); have := HBB.out b1 (by simp); have := HBB.out b2 (by simp); have := HBB.out b3 (by simp); simp only [acc, List.take, List.foldl]; omega) (by have := HBB.out b0 (by simp); have := HBB.out b1 (by simp); have := HBB.out b2 (by simp); have := HBB.out b3 (by simp); simp only [acc, List.take, List.foldl]; omega) (HBB.out b2 (by simp)))
      go_wp2_with (fail)
      have hor := HO1.out
      rw [hor]
      clear hor
      refine ⟨⟨2, by decide, rfl, ⟨set2 HPk.out _⟩, ⟨Below.setCell HBk.out (Nat.le_refl _) _⟩⟩, by decide⟩
    · obtain ⟨p0, p1, p2, p3⟩ := cells4 HPk.out
      have fz : ∀ j, wr.frozen? ⟨g7, j, none⟩ = false := free_of HPk.out
      have hcl : wr.cell? ⟨ad.block, ad.off + 3, none⟩ = some (.int .u8 b3) := by
        obtain ⟨ad', he, hcc⟩ := Kd.at_int (Kd.C_below HC.out (X3.out.trans (HBk.out.mono G7.out.1))) 3 (by decide) (by omega)
        cases he
        exact hcc
      have HO1 := Aside0.mk (or_acc (acc (0) [b1, b2, b3] 2) b3 (by have := HBB.out b0 (by simp); have := HBB.out b1 (by simp); have := HBB.out b2 (by simp); have := HBB.out b3 (by simp); simp only [acc, List.take, List.foldl]; omega) (by have := HBB.out b0 (by simp); have := HBB.out b1 (by simp); have := HBB.out b2 (by simp); have := HBB.out b3 (by simp); simp only [acc, List.take, List.foldl]; omega) (HBB.out b3 (by simp)))
      go_wp2_with (fail)
      have hor := HO1.out
      rw [hor]
      clear hor
      refine ⟨⟨3, by decide, rfl, ⟨set2 HPk.out _⟩, ⟨Below.setCell HBk.out (Nat.le_refl _) _⟩⟩, by decide⟩
    · have XR := Aside0.mk (X3.out.trans (HBk.out.mono G7.out.1))
      have hb := HBk.out
      replace HR3 := Aside0.mk ((hb.block g4 G7.out.2.1).trans HR3.out)
      replace HQ3 := Aside0.mk ((hb.block g6 G7.out.2.2).trans HQ3.out)
      obtain ⟨q0, q1, q2⟩ := cells3 HQ3.out
      clear hb
      have hn3 : (4 : Int) ≤ (n : Int) ∧ n ≤ c := ⟨by have := HL.out; omega, HNC.out⟩
      have HT := Aside0.mk (drop_o (Kd.C_below HC.out XR.out) 4 (by have := HL.out; omega) (by decide))
      go_wp2_with (fail)
      all_goals
        have hn9 := HN9.out
        refine (clone_any _ _ _ rest wr (by first | exact HT.out.1 | exact HT.out.2 (by omega)) (by omega) (by simp) (by omega)).mono ?_
        rintro e W ⟨A', c', rfl, hcc, hRc, hB⟩
        have HPW := Aside0.mk (blk_keep HPk.out hB)
        have HRW := Aside0.mk (blk_keep HR3.out hB)
        have XW := Aside0.mk (below_step XR.out hB)
        have HCC := Aside0.mk hcc
        have HRC := Aside0.mk hRc
        have hgr : g7 < wr.heap.size := (Array.getElem?_eq_some_iff.1 HPk.out).1
        have HGR := Aside0.mk hgr
        clear hcc hRc hB q0 q1 q2 hn3 hn9 hgr
        obtain ⟨p0, p1, p2, p3⟩ := cells4 HPW.out
        have fz : ∀ j, W.frozen? ⟨g7, j, none⟩ = false := free_of HPW.out
        obtain ⟨r0, r1, r2, r3⟩ := cells4 HRW.out
        have fz4 : ∀ j, W.frozen? ⟨g4, j, none⟩ = false := free_of HRW.out
        have hne : g4 ≠ g7 := by have := G7.out.2.1; omega
        go_wp2_with (fail)
        change bodyPost _ _ _ _ _ ((W.setCells g7 3 [.slice A' (n - 4) c']).setCells g4 0 [.bool (decide (128 ≤ b0)), .bool (decide (b0 / 64 % 2 = 1)), .int .i64 (acc (0) [b1, b2, b3] 3), .slice A' (n - 4) c'])
        have hRW5 : (W.setCells g7 3 [.slice A' (n - 4) c']).heap[g4]? = _ := (setCells_far [.slice A' (n - 4) c'] 3 g4 hne (w := W)).trans HRW.out
        have XW5 := below_puts (o := 3) (vs := [.slice A' (n - 4) c']) XW.out (g := g7) G7.out.1
        have HRC5 := R_puts (o := 3) (vs := [.slice A' (n - 4) c']) HRC.out (g := g7) HGR.out
        have hres := put_all (vs := [.bool (decide (128 ≤ b0)), .bool (decide (b0 / 64 % 2 = 1)), .int .i64 (acc (0) [b1, b2, b3] 3), .slice A' (n - 4) c']) hRW5 rfl
        have hbel := below_puts (o := 0) (vs := [.bool (decide (128 ≤ b0)), .bool (decide (b0 / 64 % 2 = 1)), .int .i64 (acc (0) [b1, b2, b3] 3), .slice A' (n - 4) c']) XW5 (g := g4) G4.out
        have hRC := R_puts (o := 0) (vs := [.bool (decide (128 ≤ b0)), .bool (decide (b0 / 64 % 2 = 1)), .int .i64 (acc (0) [b1, b2, b3] 3), .slice A' (n - 4) c']) HRC5 (g := g4) (by have := G7.out.2.1; have := HGR.out; omega)
        generalize (W.setCells g7 3 [.slice A' (n - 4) c']).setCells g4 0 [.bool (decide (128 ≤ b0)), .bool (decide (b0 / 64 % 2 = 1)), .int .i64 (acc (0) [b1, b2, b3] 3), .slice A' (n - 4) c'] = W9 at hres hbel hRC ⊢
        obtain ⟨s0, s1, s2, s3⟩ := cells4 hres
        have hacc : acc (0) [b1, b2, b3] 3 = b1 * 65536 + b2 * 256 + b3 := by simp only [acc, List.take, List.foldl] <;> omega
        rw [hacc] at s2
        have hCC := Kd.R_reads' hRC
        exact bodyPost_ret (v := .tuple #[pc (decide (128 ≤ b0)) (decide (b0 / 64 % 2 = 1)) (b1 * 65536 + b2 * 256 + b3) A' (n - 4) c', .int .i64 0]) (by simp [results, Tryd.results15, go_sem, s0, s1, s2, s3]) rfl ⟨A', c', rfl, HCC.out, by rw [hCC.1]; exact hCC.2.2, hbel⟩

end Go.Proofs.YtgopklnfdlnojaaDoor.Gg
