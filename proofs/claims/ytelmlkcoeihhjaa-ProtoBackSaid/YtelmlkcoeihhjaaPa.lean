/- What layer 9's functions come to, in plain numbers and lists. No conditions but that numbers are of their kind. -/
import Derived.Test.YtelmlkcoeihhjaaFa2
import Derived.OpenShut
namespace Go.Proofs.Ytelmlkcoeihhjaa.Pa
open Go.RowKit Go.Proofs.Ytelmlkcoeihhjaa.Fa Go.Proofs.YtelmlkcoeihhjaaW.PrintWords Go.Proofs.YtelmlkcoeihhjaaW.PrintLast

theorem put2 (n : Int) : wire_Put.f 9 [] n 2 = some [n / 256 % 256, n % 256] := by
  have e : wire_Put.f 9 [] n 2 = some [n / 256 % 256, n / 1 % 256] := by kernel_rfl
  rw [e, Int.ediv_one]

theorem land257 : ∀ a < 256, ∀ b < 256, (256 * a + b) &&& 257 = (256 * a + b) % 2 + 256 * ((256 * a + b) / 256 % 2) := by decide +kernel

/-- The two bits that decide whether a number may be. -/
theorem and257 (a : Int) (h0 : 0 ≤ a) (h1 : a ≤ 65535) : Go.bits .and .u16 a 257 = a % 2 + 256 * (a / 256 % 2) := by
  obtain ⟨n, rfl⟩ := Int.eq_ofNat_of_zero_le h0
  have hn : n < 65536 := by omega
  have h := (Go.bits_nat .u16 16 (by decide) (fun n h₀ h₁ => by simp [IntKind.wrap, IntKind.bits, IntKind.signed]; omega) n 257 hn (by decide)).1
  have e : n &&& 257 = n % 2 + 256 * (n / 256 % 2) := by
    have := land257 (n / 256) (by omega) (n % 256) (by omega)
    rwa [Nat.div_add_mod] at this
  have h' : Go.bits .and .u16 (n : Int) 257 = ((n &&& 257 : Nat) : Int) := h
  rw [h', e]
  omega

def right (a : Int) : Bool := decide (a % 2 = 1 ∧ a / 256 % 2 = 0 ∧ a ≠ 255)

theorem right_prog (a : Int) (h0 : 0 ≤ a) (h1 : a ≤ 65535) : proto_Right.f a = some (right a) := by
  unfold proto_Right.f right
  rw [and257 a h0 h1]
  split
  · rename_i h
    rw [Option.some.injEq, Bool.eq_iff_iff, bne_iff_ne, decide_eq_true_iff]
    omega
  · rename_i h
    rw [Option.some.injEq, Bool.eq_iff_iff, decide_eq_true_iff]
    simp only [Bool.false_eq_true, false_iff]
    omega

theorem wrap64_small {a : Int} (h0 : 0 ≤ a) (h1 : a ≤ 4294967296) : wrap64 a = a := by unfold wrap64; omega

theorem right_ref (a : Int) (h0 : 0 ≤ a) (h1 : a ≤ 65535) : marlineref09_Right.f (wrap64 a) = some (right a) := by
  unfold marlineref09_Right.f right
  rw [wrap64_small h0 (by omega), Int.tdiv_eq_ediv_of_nonneg h0, wrap64_small (by omega) (by omega), Int.tmod_eq_emod_of_nonneg h0, Int.tmod_eq_emod_of_nonneg (by omega)]
  split
  · split
    · rw [Option.some.injEq, Bool.eq_iff_iff, bne_iff_ne, decide_eq_true_iff]
      omega
    · rw [Option.some.injEq, Bool.eq_iff_iff, decide_eq_true_iff]
      simp only [Bool.false_eq_true, false_iff]
      omega
  · rw [Option.some.injEq, Bool.eq_iff_iff, decide_eq_true_iff]
    simp only [Bool.false_eq_true, false_iff]
    omega

theorem u64_small {a : Int} (h0 : 0 ≤ a) (h1 : a ≤ 65535) : IntKind.u64.wrap a = a := by
  simp [IntKind.wrap, IntKind.bits, IntKind.signed]; omega

def put (a : Int) (s : Bool) : List Int := if s = true ∧ a < 256 then [a] else [a / 256, a % 256]

theorem put_prog (a : Int) (s : Bool) (h0 : 0 ≤ a) (h1 : a ≤ 65535) : proto_Put.f 9 a s = some (put a s) := by
  unfold proto_Put.f put proto_Short.f
  rw [u64_small h0 h1, put2]
  simp only [Option.bind_some]
  have e : a / 256 % 256 = a / 256 := by omega
  by_cases hs : s = true
  · by_cases ha : a < 256
    · simp [hs, ha]; omega
    · simp [hs, ha]; omega
  · simp [hs]; omega


theorem or_u64 (x y : Int) (hx : 0 ≤ x) (hm : x % 256 = 0) (hx1 : x < 4294967296) (hy : 0 ≤ y) (hy1 : y < 256) : Go.bits .or .u64 x y = x + y :=
  Go.bits_join .u64 64 (by decide) (fun n h0 h1 => by simp [IntKind.wrap, IntKind.bits, IntKind.signed]; omega) 8 x y hx (by simpa using hm) (by omega) hy (by omega) (by omega)

theorem u64_w {a : Int} (h0 : 0 ≤ a) (h1 : a ≤ 4294967296) : IntKind.u64.wrap a = a := by
  simp [IntKind.wrap, IntKind.bits, IntKind.signed]; omega

theorem u16_w {a : Int} (h0 : 0 ≤ a) (h1 : a ≤ 65535) : IntKind.u16.wrap a = a := by
  simp [IntKind.wrap, IntKind.bits, IntKind.signed]; omega

theorem get2 (b0 b1 : Int) (rest : List Int) (h0 : 0 ≤ b0) (h0' : b0 ≤ 255) (h1 : 0 ≤ b1) (h1' : b1 ≤ 255) : wire_Get.f 9 (b0 :: b1 :: rest) 2 = some (256 * b0 + b1) := by
  have hl : ((2 : Int) ≤ ((b0 :: b1 :: rest).length : Int)) := by simp; omega
  have e : wire_Get.f 9 (b0 :: b1 :: rest) 2 = wire_Get.l0 9 0 [b0, b1] 2 0 := by
    unfold wire_Get.f
    rw [if_pos (by omega), if_pos hl]
    simp
  have e2 : wire_Get.l0 9 0 [b0, b1] 2 0 = some (Go.bits .or .u64 (IntKind.u64.wrap (Go.bits .or .u64 (IntKind.u64.wrap (0 * 256)) (IntKind.u64.wrap b0) * 256)) (IntKind.u64.wrap b1)) := by kernel_rfl
  rw [e, e2, show IntKind.u64.wrap (0 * 256) = 0 from by decide, u64_w h0 (by omega), or_u64 0 b0 (by omega) (by omega) (by omega) h0 (by omega), u64_w (a := (0 + b0) * 256) (by omega) (by omega), u64_w h1 (by omega), or_u64 ((0 + b0) * 256) b1 (by omega) (by omega) (by omega) h1 (by omega)]
  congr 1
  omega

/-- The number that octets begin with, in how many, and the error's number. -/
def get (l : List Int) (s : Bool) : Int × Int × Int :=
  match l with
  | [] => (0, 0, 2)
  | b0 :: r => if b0 % 2 = 1 then (if s = true ∧ b0 ≠ 255 then (b0, 1, 0) else (0, 0, 7)) else
    match r with
    | [] => (0, 0, 2)
    | b1 :: _ => if b1 % 2 = 1 ∧ ¬ (b0 = 0 ∧ b1 = 255) then (256 * b0 + b1, 2, 0) else (0, 0, 7)

theorem and1 (a : Int) (h0 : 0 ≤ a) (h1 : a ≤ 255) : Go.bits .and .u8 a 1 = a % 2 :=
  Go.bits_mask .u8 8 (by decide) wraps_u8 1 (by decide) a h0 (by omega)

theorem rd0 (b : Int) (r : List Int) : rd (b :: r) 0 = b := by simp [rd]
theorem rd1 (b c : Int) (r : List Int) : rd (b :: c :: r) 1 = c := by simp [rd]

theorem get_prog (l : List Int) (s : Bool) (hl : ∀ x ∈ l, 0 ≤ x ∧ x ≤ 255) : proto_Get.f 9 l s = some (get l s) := by
  unfold proto_Get.f get
  cases l with
  | nil => simp
  | cons b0 r =>
    have hb0 := hl b0 (by simp)
    rw [if_neg (by simp only [List.length_cons]; omega), if_pos (by simp only [List.length_cons]; omega), rd0, and1 b0 hb0.1 hb0.2]
    by_cases h2 : b0 % 2 = 0
    · rw [if_pos h2]
      dsimp only
      rw [if_neg (show ¬ b0 % 2 = 1 by omega)]
      cases r with
      | nil => simp
      | cons b1 r =>
        have hb1 := hl b1 (by simp)
        rw [if_neg (by simp only [List.length_cons]; omega), get2 b0 b1 r hb0.1 hb0.2 hb1.1 hb1.2, Option.bind_some, u16_w (by omega) (by omega), right_prog _ (by omega) (by omega), Option.bind_some]
        dsimp only
        by_cases hr : right (256 * b0 + b1) = true
        · rw [if_pos hr]
          unfold right at hr
          rw [decide_eq_true_iff] at hr
          rw [if_neg (by decide), if_pos (by omega)]
        · rw [if_neg hr]
          unfold right at hr
          rw [decide_eq_true_iff] at hr
          rw [if_neg (by omega)]
    · rw [if_neg h2]
      dsimp only
      rw [if_pos (show b0 % 2 = 1 by omega), u16_w (by omega) (by omega), right_prog _ (by omega) (by omega), Option.bind_some]
      by_cases hr : right b0 = true
      · rw [if_pos hr]
        unfold right at hr
        rw [decide_eq_true_iff] at hr
        rw [if_pos rfl]
        by_cases hs : s = true
        · rw [if_pos hs, if_pos ⟨hs, by omega⟩]
        · rw [if_neg hs, if_neg (by simp [hs])]
      · rw [if_neg hr]
        unfold right at hr
        rw [decide_eq_true_iff] at hr
        rw [if_neg (by omega)]

theorem put_ref (a : Int) (s : Bool) (h0 : 0 ≤ a) (h1 : a ≤ 65535) : marlineref09_Put.f (wrap64 a) s = some (put a s) := by
  unfold marlineref09_Put.f put
  rw [wrap64_small h0 (by omega), Int.tdiv_eq_ediv_of_nonneg h0, wrap64_small (by omega) (by omega), Int.tmod_eq_emod_of_nonneg h0]
  by_cases hs : s = true
  · by_cases ha : a < 256
    · simp [hs, ha]; omega
    · simp [hs, ha]; omega
  · simp [hs]; omega

theorem get_ref (l : List Int) (s : Bool) (hl : ∀ x ∈ l, 0 ≤ x ∧ x ≤ 255) : marlineref09_Get.f l s = some (get l s) := by
  unfold marlineref09_Get.f get
  cases l with
  | nil => simp
  | cons b0 r =>
    have hb0 := hl b0 (by simp)
    rw [if_neg (by simp only [List.length_cons]; omega), if_pos (by simp only [List.length_cons]; omega), rd0, Int.tmod_eq_emod_of_nonneg hb0.1]
    dsimp only
    by_cases h2 : b0 % 2 = 1
    · rw [if_pos h2, if_pos h2, wrap64_small hb0.1 (by omega)]
      by_cases hs : s = true
      · by_cases h5 : b0 = 255
        · rw [if_pos hs, if_pos h5, if_neg (by simp [h5])]
        · rw [if_pos hs, if_neg h5, if_pos ⟨hs, h5⟩]
      · rw [if_neg hs, if_neg (by simp [hs])]
    · rw [if_neg h2, if_neg h2]
      cases r with
      | nil => simp
      | cons b1 r =>
        have hb1 := hl b1 (by simp)
        rw [if_neg (by simp only [List.length_cons]; omega), if_pos (by simp only [List.length_cons]; omega), rd1, Int.tmod_eq_emod_of_nonneg hb1.1, wrap64_small hb0.1 (by omega), wrap64_small (a := 256 * b0) (by omega) (by omega), wrap64_small hb1.1 (by omega), wrap64_small (a := 256 * b0 + b1) (by omega) (by omega)]
        dsimp only
        by_cases h3 : b1 % 2 = 0
        · rw [if_pos h3, if_neg (by omega)]
        · rw [if_neg h3]
          by_cases h4 : b0 = 0
          · by_cases h5 : b1 = 255
            · rw [if_pos h4, if_pos h5, if_neg (by omega)]
            · rw [if_pos h4, if_neg h5, if_pos (by omega)]
          · rw [if_neg h4, if_pos (by omega)]

theorem get_bounds (l : List Int) (s : Bool) (hl : ∀ x ∈ l, 0 ≤ x ∧ x ≤ 255) : 0 ≤ (get l s).1 ∧ (get l s).1 ≤ 65535 := by
  unfold get
  split
  · simp
  · rename_i b0 r
    have hb0 := hl b0 (by simp)
    split
    · split <;> simp <;> omega
    · split
      · simp
      · rename_i b1 r
        have hb1 := hl b1 (by simp)
        split <;> simp <;> omega

theorem equal_loop (xs ys : List Int) (hl : xs.length = ys.length) (hm : xs.length ≤ 4294967296) (d : Nat) : ∀ (k i : Nat), i + d = xs.length → d < k →
    marlineref01_Equal.l0 k xs ys (i : Int) = some (decide (xs.drop i = ys.drop i)) := by
  induction d with
  | zero =>
    intro k i hi hk
    obtain ⟨k, rfl⟩ : ∃ m, k = m + 1 := ⟨k - 1, by omega⟩
    simp only [marlineref01_Equal.l0]
    rw [if_neg (by omega), List.drop_of_length_le (by omega), List.drop_of_length_le (by omega)]
    simp
  | succ d ih =>
    intro k i hi hk
    obtain ⟨k, rfl⟩ : ∃ m, k = m + 1 := ⟨k - 1, by omega⟩
    simp only [marlineref01_Equal.l0]
    have hx : i < xs.length := by omega
    have hy : i < ys.length := by omega
    rw [if_pos (by omega), if_pos (by omega), if_pos (by omega)]
    have ex : rd xs (i : Int) = xs[i] := by simp [rd, hx]
    have ey : rd ys (i : Int) = ys[i] := by simp [rd, hy]
    have dx : xs.drop i = xs[i] :: xs.drop (i + 1) := List.drop_eq_getElem_cons hx
    have dy : ys.drop i = ys[i] :: ys.drop (i + 1) := List.drop_eq_getElem_cons hy
    rw [ex, ey, dx, dy]
    by_cases he : xs[i] = ys[i]
    · rw [if_pos he, show wrap64 ((i : Int) + 1) = ((i + 1 : Nat) : Int) from by unfold wrap64; omega, ih k (i + 1) (by omega) (by omega)]
      congr 1
      rw [decide_eq_decide, List.cons.injEq]
      exact ⟨fun h => ⟨he, h⟩, fun h => h.2⟩
    · rw [if_neg he, eq_comm, Option.some.injEq, decide_eq_false_iff_not, List.cons.injEq]
      exact fun h => he h.1

theorem equal_prog (xs ys : List Int) (hm : xs.length ≤ 4294967296) (k : Nat) (hk : xs.length < k) : marlineref01_Equal.f k xs ys = some (decide (xs = ys)) := by
  unfold marlineref01_Equal.f
  by_cases hl : xs.length = ys.length
  · rw [if_pos (by omega)]
    have := equal_loop xs ys hl hm xs.length k 0 (by omega) (by omega)
    simpa using this
  · rw [if_neg (by omega)]
    have : xs ≠ ys := fun h => hl (by rw [h])
    simp [this]

theorem put_length (a : Int) (s : Bool) : (put a s).length ≤ 2 := by unfold put; split <;> simp

theorem speaks_yes : marlinelaw09_speaks.f 9 = some true := by decide +kernel

end Go.Proofs.Ytelmlkcoeihhjaa.Pa
