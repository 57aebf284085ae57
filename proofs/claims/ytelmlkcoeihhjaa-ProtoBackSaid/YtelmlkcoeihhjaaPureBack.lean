/- A number of layer 9 that may be is read as it was written, by whoever may shorten it, whatever stands behind it; a number that is read may be, and is written so: the law in plain numbers. No conditions. -/
import Derived.Test.YtelmlkcoeihhjaaFb
import Derived.Test.YtelmlkcoeihhjaaPa
namespace Go.Proofs.Ytelmlkcoeihhjaa.Pure
open Go.RowKit Go.Proofs.Ytelmlkcoeihhjaa.Fa Go.Proofs.Ytelmlkcoeihhjaa.Pa Go.Proofs.YtelmlkcoeihhjaaW.PrintWords Go.Proofs.YtelmlkcoeihhjaaW.PrintLast

theorem get_put (a : Int) (s may : Bool) (l : List Int) (h0 : 0 ≤ a) (h1 : a ≤ 65535) (hr : right a = true) (hs : s = true → may = true) :
    Pa.get (put a s ++ l) may = (a, ((put a s).length : Int), 0) := by
  unfold right at hr
  rw [decide_eq_true_iff] at hr
  unfold put
  by_cases c : s = true ∧ a < 256
  · rw [if_pos c]
    simp only [List.cons_append, List.nil_append, Pa.get, List.length_cons, List.length_nil]
    rw [if_pos hr.1, if_pos ⟨hs c.1, hr.2.2⟩]
    rfl
  · rw [if_neg c]
    simp only [List.cons_append, List.nil_append, Pa.get, List.length_cons, List.length_nil]
    rw [if_neg (by omega), if_pos (by omega), show 256 * (a / 256) + a % 256 = a from by omega]
    rfl

theorem put_bytes (a : Int) (s : Bool) (h0 : 0 ≤ a) (h1 : a ≤ 65535) : ∀ x ∈ put a s, 0 ≤ x ∧ x ≤ 255 := by
  unfold put
  intro x hx
  by_cases c : s = true ∧ a < 256
  · rw [if_pos c] at hx
    simp at hx
    omega
  · rw [if_neg c] at hx
    simp at hx
    omega

theorem up {α : Type} {g : Nat → Option α} (h : ∀ k, LeO (g k) (g (k + 1))) {r : α} (hr : g 9 = some r) {k : Nat} (hk : 9 ≤ k) : g k = some r := at_rounds h hk hr

theorem back_j2 (k : Nat) (a : Int) (l : List Int) (s may x : Bool) (hb : 0 ≤ a ∧ a ≤ 65535) (hl : ∀ x ∈ l, 0 ≤ x ∧ x ≤ 255) (hlen : l.length ≤ 100) (hk : 10 ≤ k)
    (h : x = false → right a = true ∧ (s = true → may = true)) : marlinelaw09_ProtoBack.j2 k a l s may x = some true := by
  obtain ⟨k, rfl⟩ : ∃ m, k = m + 1 := ⟨k - 1, by omega⟩
  simp only [marlinelaw09_ProtoBack.j2]
  cases x with
  | true => simp
  | false =>
    obtain ⟨hr, hs⟩ := h rfl
    have hl2 : ∀ x ∈ put a s ++ l, 0 ≤ x ∧ x ≤ 255 := by
      intro x hx
      rcases List.mem_append.1 hx with h | h
      · exact put_bytes a s hb.1 hb.2 x h
      · exact hl x h
    have hp := put_length a s
    rw [if_neg (by decide), up (g := fun k => proto_Put.f k a s) (proto_Put.mono a s) (put_prog a s hb.1 hb.2) (by omega)]
    simp only [Option.bind_some, List.nil_append, List.length_nil]
    rw [if_pos (by omega), if_pos (by omega), up (g := fun k => proto_Get.f k (put a s ++ l) may) (proto_Get.mono _ _) (get_prog _ may hl2) (by omega), Option.bind_some, get_put a s may l hb.1 hb.2 hr hs]
    simp

theorem back_j1 (k : Nat) (a : Int) (l : List Int) (s may : Bool) (hb : 0 ≤ a ∧ a ≤ 65535) (hl : ∀ x ∈ l, 0 ≤ x ∧ x ≤ 255) (hlen : l.length ≤ 100) (hk : 11 ≤ k) :
    marlinelaw09_ProtoBack.j1 k a l s may = some true := by
  obtain ⟨k, rfl⟩ : ∃ m, k = m + 1 := ⟨k - 1, by omega⟩
  simp only [marlinelaw09_ProtoBack.j1]
  rw [right_ref a hb.1 hb.2, Option.bind_some]
  by_cases hr : right a = true
  · rw [if_pos hr]
    by_cases hs : s = true
    · rw [if_pos hs]
      exact back_j2 k a l s may _ hb hl hlen (by omega) (fun h => ⟨hr, fun _ => by simpa using h⟩)
    · rw [if_neg hs]
      exact back_j2 k a l s may _ hb hl hlen (by omega) (fun h => ⟨hr, fun h' => absurd h' hs⟩)
  · rw [if_neg hr]
    exact back_j2 k a l s may _ hb hl hlen (by omega) (fun h => by cases h)

theorem get_cases (l : List Int) (s : Bool) (hl : ∀ x ∈ l, 0 ≤ x ∧ x ≤ 255) (h : (Pa.get l s).2.2 = 0) :
    (s = true ∧ ∃ b r, l = b :: r ∧ Pa.get l s = (b, 1, 0) ∧ right b = true ∧ 0 ≤ b ∧ b ≤ 255) ∨
    (∃ b c r, l = b :: c :: r ∧ Pa.get l s = (256 * b + c, 2, 0) ∧ right (256 * b + c) = true ∧ 0 ≤ b ∧ b ≤ 255 ∧ 0 ≤ c ∧ c ≤ 255) := by
  cases l with
  | nil => simp [Pa.get] at h
  | cons b r =>
    have hb := hl b (by simp)
    simp only [Pa.get] at h ⊢
    by_cases h2 : b % 2 = 1
    · rw [if_pos h2] at h ⊢
      by_cases hs : s = true ∧ b ≠ 255
      · rw [if_pos hs]
        exact .inl ⟨hs.1, b, r, rfl, rfl, by unfold right; rw [decide_eq_true_iff]; omega, hb.1, hb.2⟩
      · rw [if_neg hs] at h
        simp at h
    · rw [if_neg h2] at h ⊢
      cases r with
      | nil => simp at h
      | cons c r =>
        have hc := hl c (by simp)
        dsimp only at h ⊢
        by_cases h3 : c % 2 = 1 ∧ ¬ (b = 0 ∧ c = 255)
        · rw [if_pos h3]
          exact .inr ⟨b, c, r, rfl, rfl, by unfold right; rw [decide_eq_true_iff]; omega, hb.1, hb.2, hc.1, hc.2⟩
        · rw [if_neg h3] at h
          simp at h

theorem back_j0 (a : Int) (l : List Int) (s may : Bool) (hb : 0 ≤ a ∧ a ≤ 65535) (hl : ∀ x ∈ l, 0 ≤ x ∧ x ≤ 255) (hlen : l.length ≤ 100) :
    marlinelaw09_ProtoBack.j0 12 a l s may false = some true := by
  simp only [marlinelaw09_ProtoBack.j0]
  have j1 := back_j1 11 a l s may hb hl hlen (by omega)
  rw [if_neg (by decide), up (g := fun k => proto_Get.f k l may) (proto_Get.mono _ _) (get_prog l may hl) (by omega), Option.bind_some]
  by_cases h0 : (Pa.get l may).2.2 = 0
  · rw [if_pos h0]
    rcases get_cases l may hl h0 with ⟨hm, b, r, rfl, hg, hr, b0, b1⟩ | ⟨b, c, r, rfl, hg, hr, b0, b1, c0, c1⟩
    · rw [hg]
      dsimp only
      rw [right_prog b b0 (by omega), Option.bind_some, if_pos hr, if_neg (by decide), if_neg (by decide), if_neg (by simp only [List.length_cons]; omega),
        up (g := fun k => proto_Put.f k b false) (proto_Put.mono b false) (put_prog b false b0 (by omega)) (by omega), Option.bind_some, if_pos (by decide), if_pos (by simp only [List.length_cons]; omega),
        equal_prog _ _ (by have := put_length b false; omega) 11 (by have := put_length b false; omega), Option.bind_some,
        show put b false = [b / 256, b % 256] from by simp [put], if_neg (by simp), if_pos hm,
        up (g := fun k => proto_Put.f k b true) (proto_Put.mono b true) (put_prog b true b0 (by omega)) (by omega), Option.bind_some,
        equal_prog _ _ (by have := put_length b true; omega) 11 (by have := put_length b true; omega), Option.bind_some, show put b true = [b] from by unfold put; rw [if_pos ⟨rfl, by omega⟩], if_pos (by simp), j1]
    · rw [hg]
      dsimp only
      rw [right_prog _ (by omega) (by omega), Option.bind_some, if_pos hr, if_neg (by decide), if_neg (by decide), if_neg (by simp only [List.length_cons]; omega),
        up (g := fun k => proto_Put.f k (256 * b + c) false) (proto_Put.mono _ false) (put_prog _ false (by omega) (by omega)) (by omega), Option.bind_some, if_pos (by decide), if_pos (by simp only [List.length_cons]; omega),
        equal_prog _ _ (by have := put_length (256 * b + c) false; omega) 11 (by have := put_length (256 * b + c) false; omega), Option.bind_some,
        show put (256 * b + c) false = [b, c] from by simp [put]; omega, if_pos (by simp), j1]
  · rw [if_neg h0, j1]

theorem ProtoBack : marlinelaw09_ProtoBack.Pure := by
  intro a l s may hw hm hm2 hx
  have hb := bounds_u16 hw
  have hl : ∀ x ∈ l, 0 ≤ x ∧ x ≤ 255 := fun x h => bounds_u8 (hx x h)
  refine ⟨12, ?_⟩
  unfold marlinelaw09_ProtoBack.f
  rw [up marlinelaw09_speaks.mono speaks_yes (by omega), Option.bind_some, if_pos rfl]
  by_cases h100 : (l.length : Int) > 100
  · rw [show decide ((l.length : Int) > 100) = true from decide_eq_true h100]
    simp only [marlinelaw09_ProtoBack.j0]
    rw [if_pos trivial, up marlinelaw09_speaks.mono speaks_yes (by omega), Option.bind_some]
  · rw [show decide ((l.length : Int) > 100) = false from decide_eq_false h100]
    exact back_j0 a l s may hb hl (by omega)

end Go.Proofs.Ytelmlkcoeihhjaa.Pure
