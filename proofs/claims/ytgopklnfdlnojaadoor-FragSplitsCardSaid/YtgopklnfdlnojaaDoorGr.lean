/- The reference piece that octets are: what ref23.Get answers for any octets. Condition: the octets read as a list. -/
import Derived.Test.YtgopklnfdlnojaaDoorGg
import Derived.StillTailTactics
namespace Go.Proofs.YtgopklnfdlnojaaDoor.Gr
open Go.RowKit Go.Proofs.YtgopklnfdlnojaaDoor.Ga Go.Proofs.YtgopklnfdlnojaaDoor.My Go.Proofs.YtgopklnfdlnojaaDoor.Gb Go.Proofs.YtgopklnfdlnojaaDoor.Gp Go.Proofs.YtgopklnfdlnojaaDoor.Gg Go.Proofs.YtgopklnfdlnojaaDoorW.PrintWords Go.Proofs.YtgopklnfdlnojaaDoorW.PrintLast Go.Proofs.YtgopklnfdlnojaaDoorW.PrintMore
set_option linter.unusedVariables false
set_option linter.unusedSimpArgs false

theorem mul_acc (m b : Int) (h0 : 0 ≤ m) (h1 : m < 16777216) (hb : 0 ≤ b ∧ b ≤ 255) : wrap64 (wrap64 (m * 256) + wrap64 b) = m * 256 + b := by
  unfold wrap64; omega
theorem ref_bits : ∀ x < 256, ((Go.IntKind.u8.wrap (((x : Nat) : Int).tdiv 64)).tmod 2 == 1) = decide (x / 64 % 2 = 1) := by decide +kernel
theorem ref_bit (b : Int) (h0 : 0 ≤ b) (h1 : b ≤ 255) : ((Go.IntKind.u8.wrap (b.tdiv 64)).tmod 2 == 1) = decide (b / 64 % 2 = 1) := by
  obtain ⟨x, rfl, e⟩ := fin256 ref_bits b h0 h1
  exact e.trans (decide_eq_decide.2 (by omega))

set_option maxHeartbeats 2000000 in
set_option maxRecDepth 100000 in
theorem ref_short2 (A : Option Addr) (n c : Nat) (w : World) (h : n < 2) :
    Calls Tryd.prog 16 #[.bool true, .slice A n c] w fun e w' => e = .returned (.tuple #[pc false false 0 none 0 0, .int .i64 2]) ∧ Below w.heap.size w w' := by
  have hn : decide ((n : Int) < 2) = true := decide_eq_true (by omega)
  clear h
  have HR := Aside0.mk (new1 w (.cells #[.bool false, .bool false, .int .i64 0, .slice none 0 0] 24))
  have X := Aside0.mk (below_alloc (Below.refl _ w) (.cells #[.bool false, .bool false, .int .i64 0, .slice none 0 0] 24))
  go_enter Tryd.func16, Tryd.ntmps16
  go_upto_region 1 with (fail)
  obtain ⟨g4, hg4⟩ : ∃ g, w.heap.size = g := ⟨_, rfl⟩
  have G4 := Aside0.mk (show w.heap.size ≤ g4 from Nat.le_of_eq hg4)
  rw [hg4] at HR ⊢
  clear hg4
  generalize w.alloc (.cells #[.bool false, .bool false, .int .i64 0, .slice none 0 0] 24) = w1 at HR X ⊢
  obtain ⟨r0, r1, r2, r3⟩ := cells4 HR.out
  have fz : ∀ j, w1.frozen? ⟨g4, j, none⟩ = false := free_of HR.out
  go_wp2
  have hres := put_all (vs := [.bool false, .bool false, .int .i64 0, .slice none 0 0]) HR.out rfl
  have hbel := below_puts (o := 0) (vs := [.bool false, .bool false, .int .i64 0, .slice none 0 0]) X.out (g := g4) G4.out
  change bodyPost _ _ _ _ _ (w1.setCells g4 0 [.bool false, .bool false, .int .i64 0, .slice none 0 0])
  generalize w1.setCells g4 0 [.bool false, .bool false, .int .i64 0, .slice none 0 0] = W9 at hres hbel  ⊢
  obtain ⟨s0, s1, s2, s3⟩ := cells4 hres
  exact bodyPost_ret (v := .tuple #[pc (false) (false) (0) (none) (0) (0), .int .i64 2]) (by simp [results, Tryd.results16, go_sem, s0, s1, s2, s3]) rfl ⟨rfl, hbel⟩

set_option maxHeartbeats 2000000 in
set_option maxRecDepth 100000 in
theorem ref_short4 (A : Option Addr) (n c : Nat) (w : World) (h : n < 4) :
    Calls Tryd.prog 16 #[.bool false, .slice A n c] w fun e w' => e = .returned (.tuple #[pc false false 0 none 0 0, .int .i64 2]) ∧ Below w.heap.size w w' := by
  have hn : decide ((n : Int) < 4) = true := decide_eq_true (by omega)
  clear h
  have HR := Aside0.mk (new1 w (.cells #[.bool false, .bool false, .int .i64 0, .slice none 0 0] 24))
  have X := Aside0.mk (below_alloc (Below.refl _ w) (.cells #[.bool false, .bool false, .int .i64 0, .slice none 0 0] 24))
  go_enter Tryd.func16, Tryd.ntmps16
  go_upto_region 1 with (fail)
  obtain ⟨g4, hg4⟩ : ∃ g, w.heap.size = g := ⟨_, rfl⟩
  have G4 := Aside0.mk (show w.heap.size ≤ g4 from Nat.le_of_eq hg4)
  rw [hg4] at HR ⊢
  clear hg4
  generalize w.alloc (.cells #[.bool false, .bool false, .int .i64 0, .slice none 0 0] 24) = w1 at HR X ⊢
  obtain ⟨r0, r1, r2, r3⟩ := cells4 HR.out
  have fz : ∀ j, w1.frozen? ⟨g4, j, none⟩ = false := free_of HR.out
  go_wp2
  have hres := put_all (vs := [.bool false, .bool false, .int .i64 0, .slice none 0 0]) HR.out rfl
  have hbel := below_puts (o := 0) (vs := [.bool false, .bool false, .int .i64 0, .slice none 0 0]) X.out (g := g4) G4.out
  change bodyPost _ _ _ _ _ (w1.setCells g4 0 [.bool false, .bool false, .int .i64 0, .slice none 0 0])
  generalize w1.setCells g4 0 [.bool false, .bool false, .int .i64 0, .slice none 0 0] = W9 at hres hbel  ⊢
  obtain ⟨s0, s1, s2, s3⟩ := cells4 hres
  exact bodyPost_ret (v := .tuple #[pc (false) (false) (0) (none) (0) (0), .int .i64 2]) (by simp [results, Tryd.results16, go_sem, s0, s1, s2, s3]) rfl ⟨rfl, hbel⟩

set_option maxHeartbeats 2000000 in
set_option maxRecDepth 100000 in
theorem ref_bad2 (ad : Addr) (n c : Nat) (b0 : Int) (w : World) (h : 2 ≤ n) (hc : w.cell? ad = some (.int .u8 b0)) (hb0 : 0 ≤ b0) (hb1 : b0 ≤ 255) (hbad : 15 < b0 % 64) :
    Calls Tryd.prog 16 #[.bool true, .slice (some ad) n c] w fun e w' => e = .returned (.tuple #[pc false false 0 none 0 0, .int .i64 4]) ∧ Below w.heap.size w w' := by
  have HC := Aside0.mk hc
  have hn : decide ((n : Int) < 2) = false := decide_eq_false (by omega)
  have hn1 : (0 : Int) < (n : Int) := by omega
  have hn2 : 0 < n := by omega
  have HW := Aside0.mk (wrap_i b0 hb0 (by omega))
  have HT := Aside0.mk (show Int.tmod b0 64 = b0 % 64 from Int.tmod_eq_emod_of_nonneg hb0)
  have HBad := Aside0.mk hbad
  clear h hc hbad
  have HR := Aside0.mk (new1 w (.cells #[.bool false, .bool false, .int .i64 0, .slice none 0 0] 24))
  have X := Aside0.mk (below_alloc (Below.refl _ w) (.cells #[.bool false, .bool false, .int .i64 0, .slice none 0 0] 24))
  go_enter Tryd.func16, Tryd.ntmps16
  go_upto_region 1 with (fail)
  obtain ⟨g4, hg4⟩ : ∃ g, w.heap.size = g := ⟨_, rfl⟩
  have G4 := Aside0.mk (show w.heap.size ≤ g4 from Nat.le_of_eq hg4)
  rw [hg4] at HR ⊢
  clear hg4
  generalize w.alloc (.cells #[.bool false, .bool false, .int .i64 0, .slice none 0 0] 24) = w1 at HR X ⊢
  have hcell := pw_cell_below X.out HC.out
  obtain ⟨r0, r1, r2, r3⟩ := cells4 HR.out
  have fz : ∀ j, w1.frozen? ⟨g4, j, none⟩ = false := free_of HR.out
  have hw := HW.out
  have ht := HT.out
  have hbad := HBad.out
  go_wp2
  have hres := put_all (vs := [.bool false, .bool false, .int .i64 0, .slice none 0 0]) HR.out rfl
  have hbel := below_puts (o := 0) (vs := [.bool false, .bool false, .int .i64 0, .slice none 0 0]) X.out (g := g4) G4.out
  change bodyPost _ _ _ _ _ (w1.setCells g4 0 [.bool false, .bool false, .int .i64 0, .slice none 0 0])
  generalize w1.setCells g4 0 [.bool false, .bool false, .int .i64 0, .slice none 0 0] = W9 at hres hbel  ⊢
  obtain ⟨s0, s1, s2, s3⟩ := cells4 hres
  exact bodyPost_ret (v := .tuple #[pc (false) (false) (0) (none) (0) (0), .int .i64 4]) (by simp [results, Tryd.results16, go_sem, s0, s1, s2, s3]) rfl ⟨rfl, hbel⟩

set_option maxHeartbeats 2000000 in
set_option maxRecDepth 100000 in
theorem ref_bad4 (ad : Addr) (n c : Nat) (b0 : Int) (w : World) (h : 4 ≤ n) (hc : w.cell? ad = some (.int .u8 b0)) (hb0 : 0 ≤ b0) (hb1 : b0 ≤ 255) (hbad : 0 < b0 % 64) :
    Calls Tryd.prog 16 #[.bool false, .slice (some ad) n c] w fun e w' => e = .returned (.tuple #[pc false false 0 none 0 0, .int .i64 4]) ∧ Below w.heap.size w w' := by
  have HC := Aside0.mk hc
  have hn : decide ((n : Int) < 4) = false := decide_eq_false (by omega)
  have hn1 : (0 : Int) < (n : Int) := by omega
  have hn2 : 0 < n := by omega
  have HW := Aside0.mk (wrap_i b0 hb0 (by omega))
  have HT := Aside0.mk (show Int.tmod b0 64 = b0 % 64 from Int.tmod_eq_emod_of_nonneg hb0)
  have HBad := Aside0.mk hbad
  clear h hc hbad
  have HR := Aside0.mk (new1 w (.cells #[.bool false, .bool false, .int .i64 0, .slice none 0 0] 24))
  have X := Aside0.mk (below_alloc (Below.refl _ w) (.cells #[.bool false, .bool false, .int .i64 0, .slice none 0 0] 24))
  go_enter Tryd.func16, Tryd.ntmps16
  go_upto_region 1 with (fail)
  obtain ⟨g4, hg4⟩ : ∃ g, w.heap.size = g := ⟨_, rfl⟩
  have G4 := Aside0.mk (show w.heap.size ≤ g4 from Nat.le_of_eq hg4)
  rw [hg4] at HR ⊢
  clear hg4
  generalize w.alloc (.cells #[.bool false, .bool false, .int .i64 0, .slice none 0 0] 24) = w1 at HR X ⊢
  have hcell := pw_cell_below X.out HC.out
  obtain ⟨r0, r1, r2, r3⟩ := cells4 HR.out
  have fz : ∀ j, w1.frozen? ⟨g4, j, none⟩ = false := free_of HR.out
  have hw := HW.out
  have ht := HT.out
  have hbad := HBad.out
  go_wp2
  have hres := put_all (vs := [.bool false, .bool false, .int .i64 0, .slice none 0 0]) HR.out rfl
  have hbel := below_puts (o := 0) (vs := [.bool false, .bool false, .int .i64 0, .slice none 0 0]) X.out (g := g4) G4.out
  change bodyPost _ _ _ _ _ (w1.setCells g4 0 [.bool false, .bool false, .int .i64 0, .slice none 0 0])
  generalize w1.setCells g4 0 [.bool false, .bool false, .int .i64 0, .slice none 0 0] = W9 at hres hbel  ⊢
  obtain ⟨s0, s1, s2, s3⟩ := cells4 hres
  exact bodyPost_ret (v := .tuple #[pc (false) (false) (0) (none) (0) (0), .int .i64 4]) (by simp [results, Tryd.results16, go_sem, s0, s1, s2, s3]) rfl ⟨rfl, hbel⟩

set_option maxHeartbeats 4000000 in
set_option maxRecDepth 100000 in
theorem ref_yes2 (ad : Addr) (n c : Nat) (b0 b1 : Int) (rest : List Int) (w : World) (hc : (Kd.int .u8).C w (some ad) n (b0 :: b1 :: rest)) (hnc : n ≤ c) (hn9 : n ≤ 100000) (hbb : ∀ x ∈ b0 :: b1 :: rest, 0 ≤ x ∧ x ≤ 255) (hgood : b0 % 64 ≤ 15) :
    Calls Tryd.prog 16 #[.bool true, .slice (some ad) n c] w fun e w' => ∃ A' c', e = .returned (.tuple #[pc (decide (128 ≤ b0)) (decide (b0 / 64 % 2 = 1)) (b0 % 16 * 256 + b1) A' (n - 2) c', .int .i64 0]) ∧ n - 2 ≤ c' ∧ (Kd.int .u8).C w' A' (n - 2) rest ∧ Below w.heap.size w w' := by
  have hl := hc.1
  simp only [List.length_cons] at hl
  have hb0 := hbb b0 (by simp)
  have HC := Aside0.mk hc
  have HNC := Aside0.mk hnc
  have HN9 := Aside0.mk hn9
  have HBB := Aside0.mk hbb
  have HL := Aside0.mk hl
  have hn : decide ((n : Int) < 2) = false := decide_eq_false (by omega)
  have hn1 : (0 : Int) < (n : Int) := by omega
  have hn2 : 0 < n := by omega
  have HW := Aside0.mk (wrap_i b0 hb0.1 (by omega))
  have HT := Aside0.mk (show Int.tmod b0 64 = b0 % 64 from Int.tmod_eq_emod_of_nonneg hb0.1)
  have HGood := Aside0.mk hgood
  have hc0 : w.cell? ad = some (.int .u8 b0) := by
    obtain ⟨ad', he, hcc⟩ := Kd.at_int hc 0 (by omega) (by omega)
    cases he
    have e : (ad.add (0 : Int).toNat) = ad := Addr.add_zero' ad
    rw [e] at hcc
    exact hcc
  have HC0 := Aside0.mk hc0
  clear hc hgood hbb hl hnc hn9 hc0 hb0
  have HR := Aside0.mk (new1 w (.cells #[.bool false, .bool false, .int .i64 0, .slice none 0 0] 24))
  have X := Aside0.mk (below_alloc (Below.refl _ w) (.cells #[.bool false, .bool false, .int .i64 0, .slice none 0 0] 24))
  go_enter Tryd.func16, Tryd.ntmps16
  go_upto_region 1 with (fail)
  obtain ⟨g4, hg4⟩ : ∃ g, w.heap.size = g := ⟨_, rfl⟩
  have G4 := Aside0.mk (show w.heap.size ≤ g4 from Nat.le_of_eq hg4)
  rw [hg4] at HR ⊢
  clear hg4
  generalize w.alloc (.cells #[.bool false, .bool false, .int .i64 0, .slice none 0 0] 24) = w1 at HR X ⊢
  have hcell := pw_cell_below X.out HC0.out
  have hw := HW.out
  have ht := HT.out
  have hgood := HGood.out
  have hb0 := HBB.out b0 (by simp)
  go_wp2_with (fail)
  go_region_held3 (fun w' => w'.cell? ad = some (.int .u8 b0)) (first | go_keep) (first | fail)
  rw [ref_bit b0 hb0.1 hb0.2]
  have HP8 := Aside0.mk (show (w1.alloc (.cells #[.bool (decide (128 ≤ b0)), .bool (decide (b0 / 64 % 2 = 1)), .int .i64 0, .slice none 0 0] 24)).drew.heap[w1.heap.size]? = _ from new1 w1 (.cells #[.bool (decide (128 ≤ b0)), .bool (decide (b0 / 64 % 2 = 1)), .int .i64 0, .slice none 0 0] 24))
  have hb := (below_alloc (Below.refl _ w1) (.cells #[.bool (decide (128 ≤ b0)), .bool (decide (b0 / 64 % 2 = 1)), .int .i64 0, .slice none 0 0] 24)).drew
  have hs3 : w.heap.size ≤ w1.heap.size := X.out.size
  have h64 : g4 < w1.heap.size := (Array.getElem?_eq_some_iff.1 HR.out).1
  replace HR := Aside0.mk (blk_keep HR.out hb)
  replace X := Aside0.mk (below_step X.out hb)
  clear hb
  obtain ⟨g8, hg8⟩ : ∃ g, w1.heap.size = g := ⟨_, rfl⟩
  rw [hg8] at HP8 hs3 h64 ⊢
  generalize (w1.alloc (.cells #[.bool (decide (128 ≤ b0)), .bool (decide (b0 / 64 % 2 = 1)), .int .i64 0, .slice none 0 0] 24)).drew = w3 at HP8 HR X ⊢
  clear hg8 hcell hw ht hn hn1 hn2
  have G8 := Aside0.mk (And.intro hs3 h64)
  clear hs3 h64
  obtain ⟨p0, p1, p2, p3⟩ := cells4 HP8.out
  have fz : ∀ j, w3.frozen? ⟨g8, j, none⟩ = false := free_of HP8.out
  clear hgood
  go_upto_region 8 with (fail)
  have hb : Below g8 w3 (w3.setCell ⟨g8, 2, none⟩ (.int .i64 (b0 % 64))) := Below.setCell (Below.refl g8 w3) (Nat.le_refl _) _
  have HP9 := Aside0.mk (set2 HP8.out (.int .i64 (b0 % 64)))
  have HR9 := Aside0.mk ((hb.block g4 G8.out.2).trans HR.out)
  have X9 := Aside0.mk (X.out.trans (hb.mono G8.out.1))
  clear hb p0 p1 p2 p3 fz HP8 HR X
  generalize w3.setCell ⟨g8, 2, none⟩ (.int .i64 (b0 % 64)) = w4 at HP9 HR9 X9 ⊢
  go_wp2_with (fail)
  have hj : 2 ≤ n := by have := HL.out; omega
  go_loopw [9] (fun v9 wr => ∃ k : Nat, k ≤ 1 ∧ v9 = .int .i64 ((k : Int) + 1) ∧ Aside0 (wr.heap[g8]? = some (.cells #[.bool (decide (128 ≤ b0)), .bool (decide (b0 / 64 % 2 = 1)), .int .i64 (acc (b0 % 64) [b1] k), .slice none 0 0] 24 (0, 0))) ∧ Aside0 (Below g8 w4 wr)) (fun v9 _ => (2 - intOf v9).toNat)
  case atStart => exact ⟨0, Nat.zero_le _, rfl, HP9, ⟨Below.refl _ _⟩⟩
  case round =>
    obtain ⟨k, hk, rfl, HPk, HBk⟩ := hrel
    have hcase : k = 0 ∨ k = 1 := by omega
    rcases hcase with rfl | rfl
    · obtain ⟨p0, p1, p2, p3⟩ := cells4 HPk.out
      have fz : ∀ j, wr.frozen? ⟨g8, j, none⟩ = false := free_of HPk.out
      have hcl : wr.cell? ⟨ad.block, ad.off + 1, none⟩ = some (.int .u8 b1) := by
        obtain ⟨ad', he, hcc⟩ := Kd.at_int (Kd.C_below HC.out (X9.out.trans (HBk.out.mono G8.out.1))) 1 (by decide) (by omega)
        cases he
        exact hcc
      have e9 : (((0 : Nat) : Int) + 1) = 1 := by decide
      rw [e9]
      clear e9
      have ho1 := mul_acc (acc (b0 % 64) [b1] 0) b1 (by have := HBB.out b0 (by simp); have := HBB.out b1 (by simp); simp only [acc, List.take, List.foldl]; omega) (by have := HBB.out b0 (by simp); have := HBB.out b1 (by simp); simp only [acc, List.take, List.foldl]; omega) (HBB.out b1 (by simp))
      have HO1 := Aside0.mk ho1
      have hjn : 1 < n ∧ (1 : Int) < n := by omega
      clear ho1
      go_wp2_with (fail)
      go_still_tail 10, (by kernel_rfl)
      replace HPk : Aside0 (wr.drew.heap[g8]? = some _) := HPk
      replace HBk := Aside0.mk HBk.out.drew
      change wpList _ _ _ _ _ wr.drew
      replace p2 : wr.drew.cell? ⟨g8, 2, none⟩ = some _ := p2
      replace hcl : wr.drew.cell? ⟨ad.block, ad.off + 1, none⟩ = some _ := hcl
      replace fz : ∀ j, wr.drew.frozen? ⟨g8, j, none⟩ = false := fz
      clear p0 p1 p3
      generalize wr.drew = wr2 at HPk HBk p2 hcl fz ⊢
      go_wp2_with (fail)
      have ho1 := HO1.out
      rw [ho1]
      clear ho1
      refine ⟨⟨1, by decide, rfl, ⟨set2 HPk.out _⟩, ⟨Below.setCell HBk.out (Nat.le_refl _) _⟩⟩, by decide⟩
    · have XR := Aside0.mk (X9.out.trans (HBk.out.mono G8.out.1))
      have hb := HBk.out
      replace HR9 := Aside0.mk ((hb.block g4 G8.out.2).trans HR9.out)
      clear hb
      have hn3 : (2 : Int) ≤ (n : Int) ∧ n ≤ c := ⟨by omega, HNC.out⟩
      obtain ⟨p0, p1, p2, p3⟩ := cells4 HPk.out
      have fz : ∀ j, wr.frozen? ⟨g8, j, none⟩ = false := free_of HPk.out
      obtain ⟨r0, r1, r2, r3⟩ := cells4 HR9.out
      have fz4 : ∀ j, wr.frozen? ⟨g4, j, none⟩ = false := free_of HR9.out
      have hne : g4 ≠ g8 := by have := G8.out.2; omega
      have HT := Aside0.mk (drop_o HC.out 2 (by omega) (by decide))
      have e9 : (((1 : Nat) : Int) + 1) = 2 := by decide
      rw [e9]
      clear e9
      go_wp2_with (fail)
      all_goals first
        | (
           change bodyPost _ _ _ _ _ ((wr.setCells g8 3 [.slice (some ⟨ad.block, ad.off + 2, none⟩) (n - 2) (c - 2)]).setCells g4 0 [.bool (decide (128 ≤ b0)), .bool (decide (b0 / 64 % 2 = 1)), .int .i64 (acc (b0 % 64) [b1] 1), .slice (some ⟨ad.block, ad.off + 2, none⟩) (n - 2) (c - 2)])
           have hRW5 : (wr.setCells g8 3 [.slice (some ⟨ad.block, ad.off + 2, none⟩) (n - 2) (c - 2)]).heap[g4]? = _ := (setCells_far [.slice (some ⟨ad.block, ad.off + 2, none⟩) (n - 2) (c - 2)] 3 g4 hne (w := wr)).trans HR9.out
           have XW5 := below_puts (o := 3) (vs := [.slice (some ⟨ad.block, ad.off + 2, none⟩) (n - 2) (c - 2)]) XR.out (g := g8) G8.out.1
           have hres := put_all (vs := [.bool (decide (128 ≤ b0)), .bool (decide (b0 / 64 % 2 = 1)), .int .i64 (acc (b0 % 64) [b1] 1), .slice (some ⟨ad.block, ad.off + 2, none⟩) (n - 2) (c - 2)]) hRW5 rfl
           have hbel := below_puts (o := 0) (vs := [.bool (decide (128 ≤ b0)), .bool (decide (b0 / 64 % 2 = 1)), .int .i64 (acc (b0 % 64) [b1] 1), .slice (some ⟨ad.block, ad.off + 2, none⟩) (n - 2) (c - 2)]) XW5 (g := g4) G4.out
           generalize (wr.setCells g8 3 [.slice (some ⟨ad.block, ad.off + 2, none⟩) (n - 2) (c - 2)]).setCells g4 0 [.bool (decide (128 ≤ b0)), .bool (decide (b0 / 64 % 2 = 1)), .int .i64 (acc (b0 % 64) [b1] 1), .slice (some ⟨ad.block, ad.off + 2, none⟩) (n - 2) (c - 2)] = W9 at hres hbel ⊢
           obtain ⟨s0, s1, s2, s3⟩ := cells4 hres
           have hacc : acc (b0 % 64) [b1] 1 = b0 % 16 * 256 + b1 := by have := HGood.out; have := HBB.out b0 (by simp); simp only [acc, List.take, List.foldl] <;> omega
           rw [hacc] at s2
           exact bodyPost_ret (v := .tuple #[pc (decide (128 ≤ b0)) (decide (b0 / 64 % 2 = 1)) (b0 % 16 * 256 + b1) ((some ⟨ad.block, ad.off + 2, none⟩)) (n - 2) ((c - 2)), .int .i64 0]) (by simp [results, Tryd.results16, go_sem, s0, s1, s2, s3]) rfl ⟨(some ⟨ad.block, ad.off + 2, none⟩), (c - 2), rfl, by omega, Kd.C_below (HT.out.1) hbel, hbel⟩
          )
        | (
           change bodyPost _ _ _ _ _ ((wr.setCells g8 3 [.slice (some ad) (n - 2) (0)]).setCells g4 0 [.bool (decide (128 ≤ b0)), .bool (decide (b0 / 64 % 2 = 1)), .int .i64 (acc (b0 % 64) [b1] 1), .slice (some ad) (n - 2) (0)])
           have hRW5 : (wr.setCells g8 3 [.slice (some ad) (n - 2) (0)]).heap[g4]? = _ := (setCells_far [.slice (some ad) (n - 2) (0)] 3 g4 hne (w := wr)).trans HR9.out
           have XW5 := below_puts (o := 3) (vs := [.slice (some ad) (n - 2) (0)]) XR.out (g := g8) G8.out.1
           have hres := put_all (vs := [.bool (decide (128 ≤ b0)), .bool (decide (b0 / 64 % 2 = 1)), .int .i64 (acc (b0 % 64) [b1] 1), .slice (some ad) (n - 2) (0)]) hRW5 rfl
           have hbel := below_puts (o := 0) (vs := [.bool (decide (128 ≤ b0)), .bool (decide (b0 / 64 % 2 = 1)), .int .i64 (acc (b0 % 64) [b1] 1), .slice (some ad) (n - 2) (0)]) XW5 (g := g4) G4.out
           generalize (wr.setCells g8 3 [.slice (some ad) (n - 2) (0)]).setCells g4 0 [.bool (decide (128 ≤ b0)), .bool (decide (b0 / 64 % 2 = 1)), .int .i64 (acc (b0 % 64) [b1] 1), .slice (some ad) (n - 2) (0)] = W9 at hres hbel ⊢
           obtain ⟨s0, s1, s2, s3⟩ := cells4 hres
           have hacc : acc (b0 % 64) [b1] 1 = b0 % 16 * 256 + b1 := by have := HGood.out; have := HBB.out b0 (by simp); simp only [acc, List.take, List.foldl] <;> omega
           rw [hacc] at s2
           exact bodyPost_ret (v := .tuple #[pc (decide (128 ≤ b0)) (decide (b0 / 64 % 2 = 1)) (b0 % 16 * 256 + b1) ((some ad)) (n - 2) ((0)), .int .i64 0]) (by simp [results, Tryd.results16, go_sem, s0, s1, s2, s3]) rfl ⟨(some ad), (0), rfl, by omega, Kd.C_below (HT.out.2 (by omega)) hbel, hbel⟩
          )

set_option maxHeartbeats 4000000 in
set_option maxRecDepth 100000 in
theorem ref_yes4 (ad : Addr) (n c : Nat) (b0 b1 b2 b3 : Int) (rest : List Int) (w : World) (hc : (Kd.int .u8).C w (some ad) n (b0 :: b1 :: b2 :: b3 :: rest)) (hnc : n ≤ c) (hn9 : n ≤ 100000) (hbb : ∀ x ∈ b0 :: b1 :: b2 :: b3 :: rest, 0 ≤ x ∧ x ≤ 255) (hgood : b0 % 64 ≤ 0) :
    Calls Tryd.prog 16 #[.bool false, .slice (some ad) n c] w fun e w' => ∃ A' c', e = .returned (.tuple #[pc (decide (128 ≤ b0)) (decide (b0 / 64 % 2 = 1)) (b1 * 65536 + b2 * 256 + b3) A' (n - 4) c', .int .i64 0]) ∧ n - 4 ≤ c' ∧ (Kd.int .u8).C w' A' (n - 4) rest ∧ Below w.heap.size w w' := by
  have hl := hc.1
  simp only [List.length_cons] at hl
  have hb0 := hbb b0 (by simp)
  have HC := Aside0.mk hc
  have HNC := Aside0.mk hnc
  have HN9 := Aside0.mk hn9
  have HBB := Aside0.mk hbb
  have HL := Aside0.mk hl
  have hn : decide ((n : Int) < 4) = false := decide_eq_false (by omega)
  have hn1 : (0 : Int) < (n : Int) := by omega
  have hn2 : 0 < n := by omega
  have HW := Aside0.mk (wrap_i b0 hb0.1 (by omega))
  have HT := Aside0.mk (show Int.tmod b0 64 = b0 % 64 from Int.tmod_eq_emod_of_nonneg hb0.1)
  have HGood := Aside0.mk hgood
  have hc0 : w.cell? ad = some (.int .u8 b0) := by
    obtain ⟨ad', he, hcc⟩ := Kd.at_int hc 0 (by omega) (by omega)
    cases he
    have e : (ad.add (0 : Int).toNat) = ad := Addr.add_zero' ad
    rw [e] at hcc
    exact hcc
  have HC0 := Aside0.mk hc0
  clear hc hgood hbb hl hnc hn9 hc0 hb0
  have HR := Aside0.mk (new1 w (.cells #[.bool false, .bool false, .int .i64 0, .slice none 0 0] 24))
  have X := Aside0.mk (below_alloc (Below.refl _ w) (.cells #[.bool false, .bool false, .int .i64 0, .slice none 0 0] 24))
  go_enter Tryd.func16, Tryd.ntmps16
  go_upto_region 1 with (fail)
  obtain ⟨g4, hg4⟩ : ∃ g, w.heap.size = g := ⟨_, rfl⟩
  have G4 := Aside0.mk (show w.heap.size ≤ g4 from Nat.le_of_eq hg4)
  rw [hg4] at HR ⊢
  clear hg4
  generalize w.alloc (.cells #[.bool false, .bool false, .int .i64 0, .slice none 0 0] 24) = w1 at HR X ⊢
  have hcell := pw_cell_below X.out HC0.out
  have hw := HW.out
  have ht := HT.out
  have hgood := HGood.out
  have hb0 := HBB.out b0 (by simp)
  go_wp2_with (fail)
  go_region_held3 (fun w' => w'.cell? ad = some (.int .u8 b0)) (first | go_keep) (first | fail)
  rw [ref_bit b0 hb0.1 hb0.2]
  have HP8 := Aside0.mk (show (w1.alloc (.cells #[.bool (decide (128 ≤ b0)), .bool (decide (b0 / 64 % 2 = 1)), .int .i64 0, .slice none 0 0] 24)).drew.heap[w1.heap.size]? = _ from new1 w1 (.cells #[.bool (decide (128 ≤ b0)), .bool (decide (b0 / 64 % 2 = 1)), .int .i64 0, .slice none 0 0] 24))
  have hb := (below_alloc (Below.refl _ w1) (.cells #[.bool (decide (128 ≤ b0)), .bool (decide (b0 / 64 % 2 = 1)), .int .i64 0, .slice none 0 0] 24)).drew
  have hs3 : w.heap.size ≤ w1.heap.size := X.out.size
  have h64 : g4 < w1.heap.size := (Array.getElem?_eq_some_iff.1 HR.out).1
  replace HR := Aside0.mk (blk_keep HR.out hb)
  replace X := Aside0.mk (below_step X.out hb)
  clear hb
  obtain ⟨g8, hg8⟩ : ∃ g, w1.heap.size = g := ⟨_, rfl⟩
  rw [hg8] at HP8 hs3 h64 ⊢
  generalize (w1.alloc (.cells #[.bool (decide (128 ≤ b0)), .bool (decide (b0 / 64 % 2 = 1)), .int .i64 0, .slice none 0 0] 24)).drew = w3 at HP8 HR X ⊢
  clear hg8 hcell hw ht hn hn1 hn2
  have G8 := Aside0.mk (And.intro hs3 h64)
  clear hs3 h64
  obtain ⟨p0, p1, p2, p3⟩ := cells4 HP8.out
  have fz : ∀ j, w3.frozen? ⟨g8, j, none⟩ = false := free_of HP8.out
  clear hgood
  go_upto_region 8 with (fail)
  have hb : Below g8 w3 (w3.setCell ⟨g8, 2, none⟩ (.int .i64 0)) := Below.setCell (Below.refl g8 w3) (Nat.le_refl _) _
  have HP9 := Aside0.mk (set2 HP8.out (.int .i64 0))
  have HR9 := Aside0.mk ((hb.block g4 G8.out.2).trans HR.out)
  have X9 := Aside0.mk (X.out.trans (hb.mono G8.out.1))
  clear hb p0 p1 p2 p3 fz HP8 HR X
  generalize w3.setCell ⟨g8, 2, none⟩ (.int .i64 0) = w4 at HP9 HR9 X9 ⊢
  go_wp2_with (fail)
  have hj : 4 ≤ n := by have := HL.out; omega
  go_loopw [9] (fun v9 wr => ∃ k : Nat, k ≤ 3 ∧ v9 = .int .i64 ((k : Int) + 1) ∧ Aside0 (wr.heap[g8]? = some (.cells #[.bool (decide (128 ≤ b0)), .bool (decide (b0 / 64 % 2 = 1)), .int .i64 (acc 0 [b1, b2, b3] k), .slice none 0 0] 24 (0, 0))) ∧ Aside0 (Below g8 w4 wr)) (fun v9 _ => (4 - intOf v9).toNat)
  case atStart => exact ⟨0, Nat.zero_le _, rfl, HP9, ⟨Below.refl _ _⟩⟩
  case round =>
    obtain ⟨k, hk, rfl, HPk, HBk⟩ := hrel
    have hcase : k = 0 ∨ k = 1 ∨ k = 2 ∨ k = 3 := by omega
    rcases hcase with rfl | rfl | rfl | rfl
    · obtain ⟨p0, p1, p2, p3⟩ := cells4 HPk.out
      have fz : ∀ j, wr.frozen? ⟨g8, j, none⟩ = false := free_of HPk.out
      have hcl : wr.cell? ⟨ad.block, ad.off + 1, none⟩ = some (.int .u8 b1) := by
        obtain ⟨ad', he, hcc⟩ := Kd.at_int (Kd.C_below HC.out (X9.out.trans (HBk.out.mono G8.out.1))) 1 (by decide) (by omega)
        cases he
        exact hcc
      have e9 : (((0 : Nat) : Int) + 1) = 1 := by decide
      rw [e9]
      clear e9
      have ho1 := mul_acc (acc 0 [b1, b2, b3] 0) b1 (by have := HBB.out b0 (by simp); have := HBB.out b1 (by simp); have := HBB.out b2 (by simp); have := HBB.out b3 (by simp); simp only [acc, List.take, List.foldl]; omega) (by have := HBB.out b0 (by simp); have := HBB.out b1 (by simp); have := HBB.out b2 (by simp); have := HBB.out b3 (by simp); simp only [acc, List.take, List.foldl]; omega) (HBB.out b1 (by simp))
      have HO1 := Aside0.mk ho1
      have hjn : 1 < n ∧ (1 : Int) < n := by omega
      clear ho1
      go_wp2_with (fail)
      go_still_tail 10, (by kernel_rfl)
      replace HPk : Aside0 (wr.drew.heap[g8]? = some _) := HPk
      replace HBk := Aside0.mk HBk.out.drew
      change wpList _ _ _ _ _ wr.drew
      replace p2 : wr.drew.cell? ⟨g8, 2, none⟩ = some _ := p2
      replace hcl : wr.drew.cell? ⟨ad.block, ad.off + 1, none⟩ = some _ := hcl
      replace fz : ∀ j, wr.drew.frozen? ⟨g8, j, none⟩ = false := fz
      clear p0 p1 p3
      generalize wr.drew = wr2 at HPk HBk p2 hcl fz ⊢
      go_wp2_with (fail)
      have ho1 := HO1.out
      rw [ho1]
      clear ho1
      refine ⟨⟨1, by decide, rfl, ⟨set2 HPk.out _⟩, ⟨Below.setCell HBk.out (Nat.le_refl _) _⟩⟩, by decide⟩
    · obtain ⟨p0, p1, p2, p3⟩ := cells4 HPk.out
      have fz : ∀ j, wr.frozen? ⟨g8, j, none⟩ = false := free_of HPk.out
      have hcl : wr.cell? ⟨ad.block, ad.off + 2, none⟩ = some (.int .u8 b2) := by
        obtain ⟨ad', he, hcc⟩ := Kd.at_int (Kd.C_below HC.out (X9.out.trans (HBk.out.mono G8.out.1))) 2 (by decide) (by omega)
        cases he
        exact hcc
      have e9 : (((1 : Nat) : Int) + 1) = 2 := by decide
      rw [e9]
      clear e9
      have ho1 := mul_acc (acc 0 [b1, b2, b3] 1) b2 (by have := HBB.out b0 (by simp); have := HBB.out b1 (by simp); have := HBB.out b2 (by simp); have := HBB.out b3 (by simp); simp only [acc, List.take, List.foldl]; omega) (by have := HBB.out b0 (by simp); have := HBB.out b1 (by simp); have := HBB.out b2 (by simp); have := HBB.out b3 (by simp); simp only [acc, List.take, List.foldl]; omega) (HBB.out b2 (by simp))
      have HO1 := Aside0.mk ho1
      have hjn : 2 < n ∧ (2 : Int) < n := by omega
      clear ho1
      go_wp2_with (fail)
      go_still_tail 10, (by kernel_rfl)
      replace HPk : Aside0 (wr.drew.heap[g8]? = some _) := HPk
      replace HBk := Aside0.mk HBk.out.drew
      change wpList _ _ _ _ _ wr.drew
      replace p2 : wr.drew.cell? ⟨g8, 2, none⟩ = some _ := p2
      replace hcl : wr.drew.cell? ⟨ad.block, ad.off + 2, none⟩ = some _ := hcl
      replace fz : ∀ j, wr.drew.frozen? ⟨g8, j, none⟩ = false := fz
      clear p0 p1 p3
      generalize wr.drew = wr2 at HPk HBk p2 hcl fz ⊢
      go_wp2_with (fail)
      have ho1 := HO1.out
      rw [ho1]
      clear ho1
      refine ⟨⟨2, by decide, rfl, ⟨set2 HPk.out _⟩, ⟨Below.setCell HBk.out (Nat.le_refl _) _⟩⟩, by decide⟩
    · obtain ⟨p0, p1, p2, p3⟩ := cells4 HPk.out
      have fz : ∀ j, wr.frozen? ⟨g8, j, none⟩ = false := free_of HPk.out
      have hcl : wr.cell? ⟨ad.block, ad.off + 3, none⟩ = some (.int .u8 b3) := by
        obtain ⟨ad', he, hcc⟩ := Kd.at_int (Kd.C_below HC.out (X9.out.trans (HBk.out.mono G8.out.1))) 3 (by decide) (by omega)
        cases he
        exact hcc
      have e9 : (((2 : Nat) : Int) + 1) = 3 := by decide
      rw [e9]
      clear e9
      have ho1 := mul_acc (acc 0 [b1, b2, b3] 2) b3 (by have := HBB.out b0 (by simp); have := HBB.out b1 (by simp); have := HBB.out b2 (by simp); have := HBB.out b3 (by simp); simp only [acc, List.take, List.foldl]; omega) (by have := HBB.out b0 (by simp); have := HBB.out b1 (by simp); have := HBB.out b2 (by simp); have := HBB.out b3 (by simp); simp only [acc, List.take, List.foldl]; omega) (HBB.out b3 (by simp))
      have HO1 := Aside0.mk ho1
      have hjn : 3 < n ∧ (3 : Int) < n := by omega
      clear ho1
      go_wp2_with (fail)
      go_still_tail 10, (by kernel_rfl)
      replace HPk : Aside0 (wr.drew.heap[g8]? = some _) := HPk
      replace HBk := Aside0.mk HBk.out.drew
      change wpList _ _ _ _ _ wr.drew
      replace p2 : wr.drew.cell? ⟨g8, 2, none⟩ = some _ := p2
      replace hcl : wr.drew.cell? ⟨ad.block, ad.off + 3, none⟩ = some _ := hcl
      replace fz : ∀ j, wr.drew.frozen? ⟨g8, j, none⟩ = false := fz
      clear p0 p1 p3
      generalize wr.drew = wr2 at HPk HBk p2 hcl fz ⊢
      go_wp2_with (fail)
      have ho1 := HO1.out
      rw [ho1]
      clear ho1
      refine ⟨⟨3, by decide, rfl, ⟨set2 HPk.out _⟩, ⟨Below.setCell HBk.out (Nat.le_refl _) _⟩⟩, by decide⟩
    · have XR := Aside0.mk (X9.out.trans (HBk.out.mono G8.out.1))
      have hb := HBk.out
      replace HR9 := Aside0.mk ((hb.block g4 G8.out.2).trans HR9.out)
      clear hb
      have hn3 : (4 : Int) ≤ (n : Int) ∧ n ≤ c := ⟨by omega, HNC.out⟩
      obtain ⟨p0, p1, p2, p3⟩ := cells4 HPk.out
      have fz : ∀ j, wr.frozen? ⟨g8, j, none⟩ = false := free_of HPk.out
      obtain ⟨r0, r1, r2, r3⟩ := cells4 HR9.out
      have fz4 : ∀ j, wr.frozen? ⟨g4, j, none⟩ = false := free_of HR9.out
      have hne : g4 ≠ g8 := by have := G8.out.2; omega
      have HT := Aside0.mk (drop_o HC.out 4 (by omega) (by decide))
      have e9 : (((3 : Nat) : Int) + 1) = 4 := by decide
      rw [e9]
      clear e9
      go_wp2_with (fail)
      all_goals first
        | (
           change bodyPost _ _ _ _ _ ((wr.setCells g8 3 [.slice (some ⟨ad.block, ad.off + 4, none⟩) (n - 4) (c - 4)]).setCells g4 0 [.bool (decide (128 ≤ b0)), .bool (decide (b0 / 64 % 2 = 1)), .int .i64 (acc 0 [b1, b2, b3] 3), .slice (some ⟨ad.block, ad.off + 4, none⟩) (n - 4) (c - 4)])
           have hRW5 : (wr.setCells g8 3 [.slice (some ⟨ad.block, ad.off + 4, none⟩) (n - 4) (c - 4)]).heap[g4]? = _ := (setCells_far [.slice (some ⟨ad.block, ad.off + 4, none⟩) (n - 4) (c - 4)] 3 g4 hne (w := wr)).trans HR9.out
           have XW5 := below_puts (o := 3) (vs := [.slice (some ⟨ad.block, ad.off + 4, none⟩) (n - 4) (c - 4)]) XR.out (g := g8) G8.out.1
           have hres := put_all (vs := [.bool (decide (128 ≤ b0)), .bool (decide (b0 / 64 % 2 = 1)), .int .i64 (acc 0 [b1, b2, b3] 3), .slice (some ⟨ad.block, ad.off + 4, none⟩) (n - 4) (c - 4)]) hRW5 rfl
           have hbel := below_puts (o := 0) (vs := [.bool (decide (128 ≤ b0)), .bool (decide (b0 / 64 % 2 = 1)), .int .i64 (acc 0 [b1, b2, b3] 3), .slice (some ⟨ad.block, ad.off + 4, none⟩) (n - 4) (c - 4)]) XW5 (g := g4) G4.out
           generalize (wr.setCells g8 3 [.slice (some ⟨ad.block, ad.off + 4, none⟩) (n - 4) (c - 4)]).setCells g4 0 [.bool (decide (128 ≤ b0)), .bool (decide (b0 / 64 % 2 = 1)), .int .i64 (acc 0 [b1, b2, b3] 3), .slice (some ⟨ad.block, ad.off + 4, none⟩) (n - 4) (c - 4)] = W9 at hres hbel ⊢
           obtain ⟨s0, s1, s2, s3⟩ := cells4 hres
           have hacc : acc 0 [b1, b2, b3] 3 = b1 * 65536 + b2 * 256 + b3 := by have := HGood.out; have := HBB.out b0 (by simp); simp only [acc, List.take, List.foldl] <;> omega
           rw [hacc] at s2
           exact bodyPost_ret (v := .tuple #[pc (decide (128 ≤ b0)) (decide (b0 / 64 % 2 = 1)) (b1 * 65536 + b2 * 256 + b3) ((some ⟨ad.block, ad.off + 4, none⟩)) (n - 4) ((c - 4)), .int .i64 0]) (by simp [results, Tryd.results16, go_sem, s0, s1, s2, s3]) rfl ⟨(some ⟨ad.block, ad.off + 4, none⟩), (c - 4), rfl, by omega, Kd.C_below (HT.out.1) hbel, hbel⟩
          )
        | (
           change bodyPost _ _ _ _ _ ((wr.setCells g8 3 [.slice (some ad) (n - 4) (0)]).setCells g4 0 [.bool (decide (128 ≤ b0)), .bool (decide (b0 / 64 % 2 = 1)), .int .i64 (acc 0 [b1, b2, b3] 3), .slice (some ad) (n - 4) (0)])
           have hRW5 : (wr.setCells g8 3 [.slice (some ad) (n - 4) (0)]).heap[g4]? = _ := (setCells_far [.slice (some ad) (n - 4) (0)] 3 g4 hne (w := wr)).trans HR9.out
           have XW5 := below_puts (o := 3) (vs := [.slice (some ad) (n - 4) (0)]) XR.out (g := g8) G8.out.1
           have hres := put_all (vs := [.bool (decide (128 ≤ b0)), .bool (decide (b0 / 64 % 2 = 1)), .int .i64 (acc 0 [b1, b2, b3] 3), .slice (some ad) (n - 4) (0)]) hRW5 rfl
           have hbel := below_puts (o := 0) (vs := [.bool (decide (128 ≤ b0)), .bool (decide (b0 / 64 % 2 = 1)), .int .i64 (acc 0 [b1, b2, b3] 3), .slice (some ad) (n - 4) (0)]) XW5 (g := g4) G4.out
           generalize (wr.setCells g8 3 [.slice (some ad) (n - 4) (0)]).setCells g4 0 [.bool (decide (128 ≤ b0)), .bool (decide (b0 / 64 % 2 = 1)), .int .i64 (acc 0 [b1, b2, b3] 3), .slice (some ad) (n - 4) (0)] = W9 at hres hbel ⊢
           obtain ⟨s0, s1, s2, s3⟩ := cells4 hres
           have hacc : acc 0 [b1, b2, b3] 3 = b1 * 65536 + b2 * 256 + b3 := by have := HGood.out; have := HBB.out b0 (by simp); simp only [acc, List.take, List.foldl] <;> omega
           rw [hacc] at s2
           exact bodyPost_ret (v := .tuple #[pc (decide (128 ≤ b0)) (decide (b0 / 64 % 2 = 1)) (b1 * 65536 + b2 * 256 + b3) ((some ad)) (n - 4) ((0)), .int .i64 0]) (by simp [results, Tryd.results16, go_sem, s0, s1, s2, s3]) rfl ⟨(some ad), (0), rfl, by omega, Kd.C_below (HT.out.2 (by omega)) hbel, hbel⟩
          )

end Go.Proofs.YtgopklnfdlnojaaDoor.Gr
