/- What any octets are read as, by the package and by the reference: one plain function for both. -/
import Derived.Test.YtgopklnfdlnojaaDoorGg
import Derived.Test.YtgopklnfdlnojaaDoorGr
namespace Go.Proofs.YtgopklnfdlnojaaDoor.Gv
open Go.RowKit Go.Proofs.YtgopklnfdlnojaaDoor.Ga Go.Proofs.YtgopklnfdlnojaaDoor.My Go.Proofs.YtgopklnfdlnojaaDoor.Gb Go.Proofs.YtgopklnfdlnojaaDoor.Gp Go.Proofs.YtgopklnfdlnojaaDoor.Gg Go.Proofs.YtgopklnfdlnojaaDoor.Gr Go.Proofs.YtgopklnfdlnojaaDoorW.PrintWords Go.Proofs.YtgopklnfdlnojaaDoorW.PrintLast Go.Proofs.YtgopklnfdlnojaaDoorW.PrintMore

def getP : Bool → List Int → S24 × Int
  | true, b0 :: b1 :: rest => if 15 < b0 % 64 then (z24, 4) else (⟨decide (128 ≤ b0), decide (b0 / 64 % 2 = 1), b0 % 16 * 256 + b1, rest⟩, 0)
  | false, b0 :: b1 :: b2 :: b3 :: rest => if 0 < b0 % 64 then (z24, 4) else (⟨decide (128 ≤ b0), decide (b0 / 64 % 2 = 1), b1 * 65536 + b2 * 256 + b3, rest⟩, 0)
  | _, _ => (z24, 2)

theorem get_any (short : Bool) (A : Option Addr) (n c : Nat) (ys : List Int) (w : World) (hS : Shapes w) (hc : (Kd.int .u8).C w A n ys) (hnc : n ≤ c) (hn9 : n ≤ 100000) (hbb : ∀ x ∈ ys, 0 ≤ x ∧ x ≤ 255) :
    Calls Tryd.prog 15 #[.bool short, .slice A n c] w fun e w' => ∃ A' c', e = .returned (.tuple #[pc (getP short ys).1.f0 (getP short ys).1.f1 (getP short ys).1.f2 A' (getP short ys).1.f3.length c', .int .i64 (getP short ys).2]) ∧ (getP short ys).1.f3.length ≤ c' ∧ (Kd.int .u8).C w' A' (getP short ys).1.f3.length (getP short ys).1.f3 ∧ Below w.heap.size w w' := by
  obtain rfl : ys.length = n := hc.1
  cases short with
  | true =>
    by_cases hl : ys.length < 2
    · have hg : getP true ys = (z24, 2) := by
        rcases ys with _ | ⟨b0, (_ | ⟨b1, rest⟩)⟩
        · simp [getP]
        · simp [getP]
        · simp at hl; omega
      rw [hg]
      refine (get_short2 A ys.length c w hS hl).mono ?_
      rintro e w' ⟨rfl, hb⟩
      exact ⟨none, 0, rfl, Nat.le_refl _, Kd.C_nil _ _, hb⟩
    · obtain ⟨b0, b1, rest, rfl⟩ : ∃ b0 b1 rest, ys = b0 :: b1 :: rest := by
        rcases ys with _ | ⟨b0, (_ | ⟨b1, rest⟩)⟩
        · simp at hl
        · simp at hl
        · exact ⟨b0, b1, rest, rfl⟩
      obtain ⟨ad, rfl, hc0⟩ : ∃ ad, A = some ad ∧ w.cell? ad = some (.int .u8 b0) := by
        obtain ⟨ad', he, hcc⟩ := Kd.at_int hc 0 (by decide) (by simp only [List.length_cons]; omega)
        have e : (ad'.add (0 : Int).toNat) = ad' := Addr.add_zero' ad'
        rw [e] at hcc
        exact ⟨ad', he, hcc⟩
      have hb0 := hbb b0 (by simp)
      by_cases hbad : 15 < b0 % 64
      · have hg : getP true (b0 :: b1 :: rest) = (z24, 4) := by simp [getP, hbad]
        rw [hg]
        refine (get_bad2 ad _ c b0 w hS (by omega) hc0 hb0.1 hb0.2 hbad).mono ?_
        rintro e w' ⟨rfl, hb⟩
        exact ⟨none, 0, rfl, Nat.le_refl _, Kd.C_nil _ _, hb⟩
      · have hg : getP true (b0 :: b1 :: rest) = (⟨decide (128 ≤ b0), decide (b0 / 64 % 2 = 1), b0 % 16 * 256 + b1, rest⟩, 0) := by simp only [getP, if_neg hbad]
        rw [hg]
        refine (get_yes2 ad _ c b0 b1 rest w hS hc hnc hn9 hbb (by omega)).mono ?_
        rintro e w' ⟨A', c', rfl, hcc, hC, hb⟩
        have hlen : (b0 :: b1 :: rest).length - 2 = rest.length := by simp only [List.length_cons]; omega
        rw [hlen] at hcc hC ⊢
        exact ⟨A', c', rfl, hcc, hC, hb⟩
  | false =>
    by_cases hl : ys.length < 4
    · have hg : getP false ys = (z24, 2) := by
        rcases ys with _ | ⟨b0, (_ | ⟨b1, (_ | ⟨b2, (_ | ⟨b3, rest⟩)⟩)⟩)⟩
        · simp [getP]
        · simp [getP]
        · simp [getP]
        · simp [getP]
        · simp at hl; omega
      rw [hg]
      refine (get_short4 A ys.length c w hS hl).mono ?_
      rintro e w' ⟨rfl, hb⟩
      exact ⟨none, 0, rfl, Nat.le_refl _, Kd.C_nil _ _, hb⟩
    · obtain ⟨b0, b1, b2, b3, rest, rfl⟩ : ∃ b0 b1 b2 b3 rest, ys = b0 :: b1 :: b2 :: b3 :: rest := by
        rcases ys with _ | ⟨b0, (_ | ⟨b1, (_ | ⟨b2, (_ | ⟨b3, rest⟩)⟩)⟩)⟩
        · simp at hl
        · simp at hl
        · simp at hl
        · simp at hl
        · exact ⟨b0, b1, b2, b3, rest, rfl⟩
      obtain ⟨ad, rfl, hc0⟩ : ∃ ad, A = some ad ∧ w.cell? ad = some (.int .u8 b0) := by
        obtain ⟨ad', he, hcc⟩ := Kd.at_int hc 0 (by decide) (by simp only [List.length_cons]; omega)
        have e : (ad'.add (0 : Int).toNat) = ad' := Addr.add_zero' ad'
        rw [e] at hcc
        exact ⟨ad', he, hcc⟩
      have hb0 := hbb b0 (by simp)
      by_cases hbad : 0 < b0 % 64
      · have hg : getP false (b0 :: b1 :: b2 :: b3 :: rest) = (z24, 4) := by simp [getP, hbad]
        rw [hg]
        refine (get_bad4 ad _ c b0 w hS (by omega) hc0 hb0.1 hb0.2 hbad).mono ?_
        rintro e w' ⟨rfl, hb⟩
        exact ⟨none, 0, rfl, Nat.le_refl _, Kd.C_nil _ _, hb⟩
      · have hg : getP false (b0 :: b1 :: b2 :: b3 :: rest) = (⟨decide (128 ≤ b0), decide (b0 / 64 % 2 = 1), b1 * 65536 + b2 * 256 + b3, rest⟩, 0) := by simp only [getP, if_neg hbad]
        rw [hg]
        refine (get_yes4 ad _ c b0 b1 b2 b3 rest w hS hc hnc hn9 hbb (by omega)).mono ?_
        rintro e w' ⟨A', c', rfl, hcc, hC, hb⟩
        have hlen : (b0 :: b1 :: b2 :: b3 :: rest).length - 4 = rest.length := by simp only [List.length_cons]; omega
        rw [hlen] at hcc hC ⊢
        exact ⟨A', c', rfl, hcc, hC, hb⟩

theorem ref_any (short : Bool) (A : Option Addr) (n c : Nat) (ys : List Int) (w : World) (hc : (Kd.int .u8).C w A n ys) (hnc : n ≤ c) (hn9 : n ≤ 100000) (hbb : ∀ x ∈ ys, 0 ≤ x ∧ x ≤ 255) :
    Calls Tryd.prog 16 #[.bool short, .slice A n c] w fun e w' => ∃ A' c', e = .returned (.tuple #[pc (getP short ys).1.f0 (getP short ys).1.f1 (getP short ys).1.f2 A' (getP short ys).1.f3.length c', .int .i64 (getP short ys).2]) ∧ (getP short ys).1.f3.length ≤ c' ∧ (Kd.int .u8).C w' A' (getP short ys).1.f3.length (getP short ys).1.f3 ∧ Below w.heap.size w w' := by
  obtain rfl : ys.length = n := hc.1
  cases short with
  | true =>
    by_cases hl : ys.length < 2
    · have hg : getP true ys = (z24, 2) := by
        rcases ys with _ | ⟨b0, (_ | ⟨b1, rest⟩)⟩
        · simp [getP]
        · simp [getP]
        · simp at hl; omega
      rw [hg]
      refine (ref_short2 A ys.length c w  hl).mono ?_
      rintro e w' ⟨rfl, hb⟩
      exact ⟨none, 0, rfl, Nat.le_refl _, Kd.C_nil _ _, hb⟩
    · obtain ⟨b0, b1, rest, rfl⟩ : ∃ b0 b1 rest, ys = b0 :: b1 :: rest := by
        rcases ys with _ | ⟨b0, (_ | ⟨b1, rest⟩)⟩
        · simp at hl
        · simp at hl
        · exact ⟨b0, b1, rest, rfl⟩
      obtain ⟨ad, rfl, hc0⟩ : ∃ ad, A = some ad ∧ w.cell? ad = some (.int .u8 b0) := by
        obtain ⟨ad', he, hcc⟩ := Kd.at_int hc 0 (by decide) (by simp only [List.length_cons]; omega)
        have e : (ad'.add (0 : Int).toNat) = ad' := Addr.add_zero' ad'
        rw [e] at hcc
        exact ⟨ad', he, hcc⟩
      have hb0 := hbb b0 (by simp)
      by_cases hbad : 15 < b0 % 64
      · have hg : getP true (b0 :: b1 :: rest) = (z24, 4) := by simp [getP, hbad]
        rw [hg]
        refine (ref_bad2 ad _ c b0 w  (by omega) hc0 hb0.1 hb0.2 hbad).mono ?_
        rintro e w' ⟨rfl, hb⟩
        exact ⟨none, 0, rfl, Nat.le_refl _, Kd.C_nil _ _, hb⟩
      · have hg : getP true (b0 :: b1 :: rest) = (⟨decide (128 ≤ b0), decide (b0 / 64 % 2 = 1), b0 % 16 * 256 + b1, rest⟩, 0) := by simp only [getP, if_neg hbad]
        rw [hg]
        refine (ref_yes2 ad _ c b0 b1 rest w  hc hnc hn9 hbb (by omega)).mono ?_
        rintro e w' ⟨A', c', rfl, hcc, hC, hb⟩
        have hlen : (b0 :: b1 :: rest).length - 2 = rest.length := by simp only [List.length_cons]; omega
        rw [hlen] at hcc hC ⊢
        exact ⟨A', c', rfl, hcc, hC, hb⟩
  | false =>
    by_cases hl : ys.length < 4
    · have hg : getP false ys = (z24, 2) := by
        rcases ys with _ | ⟨b0, (_ | ⟨b1, (_ | ⟨b2, (_ | ⟨b3, rest⟩)⟩)⟩)⟩
        · simp [getP]
        · simp [getP]
        · simp [getP]
        · simp [getP]
        · simp at hl; omega
      rw [hg]
      refine (ref_short4 A ys.length c w  hl).mono ?_
      rintro e w' ⟨rfl, hb⟩
      exact ⟨none, 0, rfl, Nat.le_refl _, Kd.C_nil _ _, hb⟩
    · obtain ⟨b0, b1, b2, b3, rest, rfl⟩ : ∃ b0 b1 b2 b3 rest, ys = b0 :: b1 :: b2 :: b3 :: rest := by
        rcases ys with _ | ⟨b0, (_ | ⟨b1, (_ | ⟨b2, (_ | ⟨b3, rest⟩)⟩)⟩)⟩
        · simp at hl
        · simp at hl
        · simp at hl
        · simp at hl
        · exact ⟨b0, b1, b2, b3, rest, rfl⟩
      obtain ⟨ad, rfl, hc0⟩ : ∃ ad, A = some ad ∧ w.cell? ad = some (.int .u8 b0) := by
        obtain ⟨ad', he, hcc⟩ := Kd.at_int hc 0 (by decide) (by simp only [List.length_cons]; omega)
        have e : (ad'.add (0 : Int).toNat) = ad' := Addr.add_zero' ad'
        rw [e] at hcc
        exact ⟨ad', he, hcc⟩
      have hb0 := hbb b0 (by simp)
      by_cases hbad : 0 < b0 % 64
      · have hg : getP false (b0 :: b1 :: b2 :: b3 :: rest) = (z24, 4) := by simp [getP, hbad]
        rw [hg]
        refine (ref_bad4 ad _ c b0 w  (by omega) hc0 hb0.1 hb0.2 hbad).mono ?_
        rintro e w' ⟨rfl, hb⟩
        exact ⟨none, 0, rfl, Nat.le_refl _, Kd.C_nil _ _, hb⟩
      · have hg : getP false (b0 :: b1 :: b2 :: b3 :: rest) = (⟨decide (128 ≤ b0), decide (b0 / 64 % 2 = 1), b1 * 65536 + b2 * 256 + b3, rest⟩, 0) := by simp only [getP, if_neg hbad]
        rw [hg]
        refine (ref_yes4 ad _ c b0 b1 b2 b3 rest w  hc hnc hn9 hbb (by omega)).mono ?_
        rintro e w' ⟨A', c', rfl, hcc, hC, hb⟩
        have hlen : (b0 :: b1 :: b2 :: b3 :: rest).length - 4 = rest.length := by simp only [List.length_cons]; omega
        rw [hlen] at hcc hC ⊢
        exact ⟨A', c', rfl, hcc, hC, hb⟩


end Go.Proofs.YtgopklnfdlnojaaDoor.Gv
