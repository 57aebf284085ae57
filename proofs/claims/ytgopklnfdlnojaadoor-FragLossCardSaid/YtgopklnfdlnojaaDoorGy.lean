/- There and back: what is written is read as it was, what is read is written as it was. Plain, no program. -/
import Derived.Test.YtgopklnfdlnojaaDoorGw
namespace Go.Proofs.YtgopklnfdlnojaaDoor.Gy
open Go.RowKit Go.Proofs.YtgopklnfdlnojaaDoor.Ga Go.Proofs.YtgopklnfdlnojaaDoor.My Go.Proofs.YtgopklnfdlnojaaDoor.Gb Go.Proofs.YtgopklnfdlnojaaDoor.Gp Go.Proofs.YtgopklnfdlnojaaDoor.Gv Go.Proofs.YtgopklnfdlnojaaDoor.Gw Go.Proofs.YtgopklnfdlnojaaDoorW.PrintWords
set_option linter.unusedVariables false
set_option linter.unusedSimpArgs false

theorem get_put (short b e : Bool) (num : Int) (xs : List Int) (h0 : 0 ≤ num) (h1 : num < numbers short) : getP short (putB short b e num xs) = (⟨b, e, num, xs⟩, 0) := by
  cases short with
  | true =>
    have h2 : num < 4096 := h1
    have ht : top b e = 0 ∨ top b e = 64 ∨ top b e = 128 ∨ top b e = 192 := by cases b <;> cases e <;> decide
    have hb : decide (128 ≤ top b e + num / 256) = b := by
      cases b <;> cases e <;> simp [top] <;> omega
    have he : decide ((top b e + num / 256) / 64 % 2 = 1) = e := by
      cases b <;> cases e <;> simp [top] <;> omega
    show getP true ((top b e + num / 256) :: (num % 256) :: xs) = _
    rw [getP, if_neg (by omega), hb, he]
    have e2 : (top b e + num / 256) % 16 * 256 + num % 256 = num := by omega
    rw [e2]
  | false =>
    have h2 : num < 16777216 := h1
    have hb : decide (128 ≤ top b e) = b := by
      cases b <;> cases e <;> decide
    have he : decide ((top b e) / 64 % 2 = 1) = e := by
      cases b <;> cases e <;> decide
    have hz : ¬ 0 < top b e % 64 := by cases b <;> cases e <;> decide
    show getP false (top b e :: (num / 65536) :: (num / 256 % 256) :: (num % 256) :: xs) = _
    rw [getP, if_neg hz, hb, he]
    have e2 : num / 65536 * 65536 + num / 256 % 256 * 256 + num % 256 = num := by omega
    rw [e2]

theorem put_bytes (short b e : Bool) (num : Int) (xs : List Int) (h0 : 0 ≤ num) (h1 : num < numbers short) (hx : ∀ x ∈ xs, 0 ≤ x ∧ x ≤ 255) : ∀ x ∈ putB short b e num xs, 0 ≤ x ∧ x ≤ 255 := by
  have ht : top b e = 0 ∨ top b e = 64 ∨ top b e = 128 ∨ top b e = 192 := by cases b <;> cases e <;> decide
  cases short with
  | true =>
    have h2 : num < 4096 := h1
    intro x hm
    have hm2 : x ∈ (top b e + num / 256) :: (num % 256) :: xs := hm
    simp only [List.mem_cons] at hm2
    rcases hm2 with rfl | rfl | h
    · omega
    · omega
    · exact hx x h
  | false =>
    have h2 : num < 16777216 := h1
    intro x hm
    have hm2 : x ∈ top b e :: (num / 65536) :: (num / 256 % 256) :: (num % 256) :: xs := hm
    simp only [List.mem_cons] at hm2
    rcases hm2 with rfl | rfl | rfl | rfl | h
    · omega
    · omega
    · omega
    · omega
    · exact hx x h

theorem put_len (short b e : Bool) (num : Int) (xs : List Int) : (putB short b e num xs).length = wide short + xs.length := by
  cases short <;> simp [putB, head2, head4, wide] <;> omega

theorem top_of (b0 : Int) (h0 : 0 ≤ b0) (h1 : b0 ≤ 255) : top (decide (128 ≤ b0)) (decide (b0 / 64 % 2 = 1)) = b0 / 64 * 64 := by
  unfold top
  by_cases h : 128 ≤ b0 <;> by_cases h2 : b0 / 64 % 2 = 1 <;> simp [h, h2] <;> omega

/-- Either the octets are no piece, and there is an empty one and an error, or the piece is written as they are. -/
theorem put_get (short : Bool) (ys : List Int) (hy : ∀ y ∈ ys, 0 ≤ y ∧ y ≤ 255) :
    (∃ k, k ≠ 0 ∧ getP short ys = (z24, k)) ∨ ∃ b e num xs, getP short ys = (⟨b, e, num, xs⟩, 0) ∧ 0 ≤ num ∧ num < numbers short ∧ xs.length ≤ ys.length ∧ putB short b e num xs = ys := by
  cases short with
  | true =>
    match ys, hy with
    | [], _ => exact .inl ⟨2, by decide, rfl⟩
    | [_], _ => exact .inl ⟨2, by decide, rfl⟩
    | b0 :: b1 :: rest, hy =>
      have h0 := hy b0 (by simp)
      have h1 := hy b1 (by simp)
      by_cases h : 15 < b0 % 64
      · exact .inl ⟨4, by decide, by rw [getP, if_pos h]⟩
      · refine .inr ⟨_, _, _, _, by rw [getP, if_neg h], by omega, (show _ < 4096 by omega), by simp; omega, ?_⟩
        show (top _ _ + (b0 % 16 * 256 + b1) / 256) :: ((b0 % 16 * 256 + b1) % 256) :: rest = _
        rw [top_of b0 h0.1 h0.2]
        have e1 : b0 / 64 * 64 + (b0 % 16 * 256 + b1) / 256 = b0 := by omega
        have e2 : (b0 % 16 * 256 + b1) % 256 = b1 := by omega
        rw [e1, e2]
  | false =>
    match ys, hy with
    | [], _ => exact .inl ⟨2, by decide, rfl⟩
    | [_], _ => exact .inl ⟨2, by decide, rfl⟩
    | [_, _], _ => exact .inl ⟨2, by decide, rfl⟩
    | [_, _, _], _ => exact .inl ⟨2, by decide, rfl⟩
    | b0 :: b1 :: b2 :: b3 :: rest, hy =>
      have h0 := hy b0 (by simp)
      have h1 := hy b1 (by simp)
      have h2 := hy b2 (by simp)
      have h3 := hy b3 (by simp)
      by_cases h : 0 < b0 % 64
      · exact .inl ⟨4, by decide, by rw [getP, if_pos h]⟩
      · refine .inr ⟨_, _, _, _, by rw [getP, if_neg h], by omega, (show _ < 16777216 by omega), by simp; omega, ?_⟩
        show top _ _ :: ((b1 * 65536 + b2 * 256 + b3) / 65536) :: ((b1 * 65536 + b2 * 256 + b3) / 256 % 256) :: ((b1 * 65536 + b2 * 256 + b3) % 256) :: rest = _
        rw [top_of b0 h0.1 h0.2]
        have e1 : b0 / 64 * 64 = b0 := by omega
        have e2 : (b1 * 65536 + b2 * 256 + b3) / 65536 = b1 := by omega
        have e3 : (b1 * 65536 + b2 * 256 + b3) / 256 % 256 = b2 := by omega
        have e4 : (b1 * 65536 + b2 * 256 + b3) % 256 = b3 := by omega
        rw [e1, e2, e3, e4]

end Go.Proofs.YtgopklnfdlnojaaDoor.Gy
