/- What the document's functions of layer 19 come to, in plain numbers and lists: the same as the program's. No conditions but that numbers are of their kind. -/
import Derived.Test.YtelmlkcoeihhjaaFl5
import Derived.Test.YtelmlkcoeihhjaaFl6
import Derived.Test.YtelmlkcoeihhjaaFl7
import Derived.Test.YtelmlkcoeihhjaaFl8
import Derived.Test.YtelmlkcoeihhjaaLq
namespace Go.Proofs.Ytelmlkcoeihhjaa.Ls
open Go.RowKit Go.Proofs.Ytelmlkcoeihhjaa.Fl Go.Proofs.Ytelmlkcoeihhjaa.Lq Go.Proofs.YtelmlkcoeihhjaaW.PrintWords Go.Proofs.YtelmlkcoeihhjaaW.PrintLast
set_option linter.unusedVariables false
set_option linter.unusedSimpArgs false

theorem few_loop (os : List S79) (hm : os.length ≤ 9223372036854775807) (d : Nat) : ∀ (k i : Nat) (acc : Int), i + d = os.length → d < k →
    ∃ r, marlinelaw12_Few.l0 k os acc os (os.length : Int) (i : Int) = some r ∧ (r = true → os.length ≤ 60) := by
  induction d with
  | zero =>
    intro k i acc hi hk
    obtain ⟨k, rfl⟩ : ∃ m, k = m + 1 := ⟨k - 1, by omega⟩
    simp only [marlinelaw12_Few.l0]
    rw [if_neg (by omega)]
    by_cases h : (os.length : Int) ≤ 60
    · rw [if_pos h]
      exact ⟨_, rfl, fun _ => by omega⟩
    · rw [if_neg h]
      exact ⟨_, rfl, fun h => by cases h⟩
  | succ d ih =>
    intro k i acc hi hk
    obtain ⟨k, rfl⟩ : ∃ m, k = m + 1 := ⟨k - 1, by omega⟩
    simp only [marlinelaw12_Few.l0]
    rw [if_pos (by omega), if_pos (by omega), if_pos (by omega), show wrap64 ((i : Int) + 1) = ((i + 1 : Nat) : Int) from by unfold wrap64; omega]
    exact ih k (i + 1) _ (by omega) (by omega)

theorem few_prog (p c i : Int) (os : List S79) (s m : Int) (one two data xs : List Int) (hm : os.length ≤ 9223372036854775807) :
    ∃ r, marlinelaw15_Few.f (os.length + 1) p c i os s m one two data xs = some r ∧ (r = true → os.length ≤ 60 ∧ one.length ≤ 600 ∧ two.length ≤ 600 ∧ data.length ≤ 600 ∧ xs.length ≤ 40) := by
  obtain ⟨r, h, hr⟩ := few_loop os hm os.length (os.length + 1) 0 0 (by omega) (by omega)
  have h' : marlinelaw12_Few.f (os.length + 1) os = some r := h
  unfold marlinelaw15_Few.f
  rw [h', Option.bind_some]
  cases r with
  | false => exact ⟨false, by rw [if_neg (by decide)], fun h => by cases h⟩
  | true =>
    rw [if_pos rfl]
    by_cases h6 : (one.length : Int) ≤ 600
    · rw [if_pos h6]
      by_cases h7 : (two.length : Int) ≤ 600
      · rw [if_pos h7]
        by_cases h8 : (data.length : Int) ≤ 600
        · rw [if_pos h8]
          exact ⟨_, rfl, fun h => ⟨hr rfl, by omega, by omega, by omega, by have := of_decide_eq_true h; omega⟩⟩
        · rw [if_neg h8]
          exact ⟨_, rfl, fun h => by cases h⟩
      · rw [if_neg h7]
        exact ⟨_, rfl, fun h => by cases h⟩
    · rw [if_neg h6]
      exact ⟨_, rfl, fun h => by cases h⟩

theorem number4 (n : Int) (h0 : 0 ≤ n) (h1 : n < 4294967296) (k : Nat) (hk : 6 ≤ k) : marlineref15_Number.f k n 4 = some (b4 n) := by
  obtain ⟨k, rfl⟩ : ∃ m, k = m + 6 := ⟨k - 6, by omega⟩
  unfold marlineref15_Number.f
  have t : ∀ x : Int, 0 ≤ x → x < 4294967296 → wrap64 (Int.tdiv x 256) = x / 256 := fun x a b => by rw [Int.tdiv_eq_ediv_of_nonneg a, w64 (by omega) (by omega)]
  have m : ∀ x : Int, 0 ≤ x → Int.tmod x 256 % 256 = x % 256 := fun x a => by rw [Int.tmod_eq_emod_of_nonneg a]; omega
  simp only [marlineref15_Number.l0]
  rw [if_pos (by decide), Option.bind_some, if_pos (by simp), t n h0 h1, m n h0, show wrap64 (0 + 1) = 1 from by kernel_rfl,
    if_pos (by decide), Option.bind_some, if_pos (by simp), t (n / 256) (by omega) (by omega), m (n / 256) (by omega), show wrap64 (1 + 1) = 2 from by kernel_rfl,
    if_pos (by decide), Option.bind_some, if_pos (by simp), t (n / 256 / 256) (by omega) (by omega), m (n / 256 / 256) (by omega), show wrap64 (2 + 1) = 3 from by kernel_rfl,
    if_pos (by decide), Option.bind_some, if_pos (by simp), t (n / 256 / 256 / 256) (by omega) (by omega), m (n / 256 / 256 / 256) (by omega), show wrap64 (3 + 1) = 4 from by kernel_rfl, if_neg (by decide)]
  unfold b4
  rw [show n / 256 / 256 / 256 = n / 16777216 from by omega, show n / 256 / 256 = n / 65536 from by omega]
  rfl

theorem ref_put_loop (p c i : Int) (os : List S79) (s m : Int) (one two data xs : List Int) (hx : ∀ x ∈ xs, 0 ≤ x ∧ x < 4294967296) (hn : xs.length = 12) (d : Nat) : ∀ (k j : Nat) (acc : List Int), j + d = 12 → acc.length ≤ 4 * j → d + 7 < k →
    marlineref19_Put.l0 k acc (j : Int) p c i os s m one two data xs = some (acc ++ (xs.drop j).flatMap b4, 0) := by
  induction d with
  | zero =>
    intro k j acc hj ha hk
    obtain ⟨k, rfl⟩ : ∃ m, k = m + 1 := ⟨k - 1, by omega⟩
    simp only [marlineref19_Put.l0]
    rw [if_neg (by omega), List.drop_of_length_le (by omega)]
    simp
  | succ d ih =>
    intro k j acc hj ha hk
    obtain ⟨k, rfl⟩ : ∃ m, k = m + 1 := ⟨k - 1, by omega⟩
    have hlt : j < xs.length := by omega
    have hb := hx xs[j] (List.getElem_mem hlt)
    simp only [marlineref19_Put.l0]
    rw [if_pos (by omega), if_pos (by omega), if_pos (by omega), rd_at xs j hlt, w64 hb.1 (by omega), number4 _ hb.1 hb.2 k (by omega), Option.bind_some, if_pos (by rw [b4_length]; omega),
      show wrap64 ((j : Int) + 1) = ((j + 1 : Nat) : Int) from by rw [w64 (by omega) (by omega)]; omega,
      ih k (j + 1) _ (by omega) (by rw [List.length_append, b4_length]; omega) (by omega), List.drop_eq_getElem_cons hlt, List.flatMap_cons, List.append_assoc]

theorem ref_j0 (k : Nat) (b : Bool) (p c i : Int) (os : List S79) (s m : Int) (one two data xs : List Int) :
    marlineref19_Put.j0 (k + 1) b p c i os s m one two data xs = if b = true then some ([], 9) else if (xs.length : Int) = 12 then marlineref19_Put.l0 k [] 0 p c i os s m one two data xs else some ([], 5) := by
  simp only [marlineref19_Put.j0]

theorem ref_put (p c i : Int) (os : List S79) (s m : Int) (one two data xs : List Int) (hx : ∀ x ∈ xs, 0 ≤ x ∧ x < 4294967296) :
    marlineref19_Put.f 40 p c i os s m one two data xs = some (putSpec p c i os.length s m one.length two.length data.length xs) := by
  unfold marlineref19_Put.f putSpec
  have j9 : marlineref19_Put.j0 40 true p c i os s m one two data xs = some ([], 9) := (ref_j0 39 true p c i os s m one two data xs).trans (if_pos rfl)
  by_cases hp : p = 49189
  · rw [if_pos hp, if_neg (show ¬ p ≠ 49189 from fun h => h hp)]
    by_cases hc : c = 0
    · rw [if_pos hc]
      by_cases hi : i = 0
      · rw [if_pos hi]
        by_cases h3 : (os.length : Int) > 0
        · rw [if_pos h3, j9, if_pos (fun h => by have := h.2.2.2.2.1; omega)]
        · rw [if_neg h3]
          by_cases hs : s = 0
          · rw [if_pos hs]
            by_cases hm : m = 0
            · rw [if_pos hm]
              by_cases h6 : (one.length : Int) > 0
              · rw [if_pos h6, j9, if_pos (fun h => by have := h.2.2.2.2.2.1; omega)]
              · rw [if_neg h6]
                by_cases h7 : (two.length : Int) > 0
                · rw [if_pos h7, j9, if_pos (fun h => by have := h.2.2.2.2.2.2.1; omega)]
                · rw [if_neg h7]
                  by_cases h8 : (data.length : Int) > 0
                  · rw [decide_eq_true h8, j9, if_pos (fun h => by have := h.2.2.2.2.2.2.2; omega)]
                  · have e0 := ref_j0 39 false p c i os s m one two data xs
                    rw [if_neg (show ¬ (false = true) by decide)] at e0
                    have e1 : marlineref19_Put.j0 40 false p c i os s m one two data xs = _ := e0
                    rw [decide_eq_false h8, e1, if_neg (show ¬ ¬ (c = 0 ∧ i = 0 ∧ s = 0 ∧ m = 0 ∧ os.length = 0 ∧ one.length = 0 ∧ two.length = 0 ∧ data.length = 0) from fun h => h ⟨hc, hi, hs, hm, by omega, by omega, by omega, by omega⟩)]
                    by_cases hl : xs.length = 12
                    · rw [if_pos (by omega), if_neg (show ¬ xs.length ≠ 12 from fun h => h hl)]
                      have := ref_put_loop p c i os s m one two data xs hx hl 12 39 0 [] (by omega) (by simp) (by omega)
                      simpa using this
                    · rw [if_neg (by omega), if_pos hl]
            · rw [if_neg hm, j9, if_pos (fun h => hm h.2.2.2.1)]
          · rw [if_neg hs, j9, if_pos (fun h => hs h.2.2.1)]
      · rw [if_neg hi, j9, if_pos (fun h => hi h.2.1)]
    · rw [if_neg hc, j9, if_pos (fun h => hc h.1)]
  · rw [if_neg hp, if_pos hp]

theorem read4 (l : List Int) (hb : ∀ x ∈ l, 0 ≤ x ∧ x ≤ 255) (hl : 4 ≤ l.length) (k : Nat) (hk : 5 ≤ k) : marlineref15_Read.f k l 4 = some (rd4 l) := by
  obtain ⟨k, rfl⟩ : ∃ m, k = m + 5 := ⟨k - 5, by omega⟩
  have h : ∀ i : Int, 0 ≤ rd l i ∧ rd l i ≤ 255 := by
    intro i
    unfold rd
    rw [List.getD_eq_getElem?_getD]
    cases hh : l[i.toNat]? with
    | none => simp
    | some x => simpa using hb x (List.mem_of_getElem? hh)
  have h0 := h 0
  have h1 := h 1
  have h2 := h 2
  have h3 := h 3
  unfold marlineref15_Read.f rd4
  simp only [marlineref15_Read.l0]
  rw [if_pos (by decide), if_pos (by decide), if_pos (by omega), show wrap64 (0 + 1) = 1 from by kernel_rfl, if_pos (by decide), if_pos (by decide), if_pos (by omega), show wrap64 (1 + 1) = 2 from by kernel_rfl,
    if_pos (by decide), if_pos (by decide), if_pos (by omega), show wrap64 (2 + 1) = 3 from by kernel_rfl, if_pos (by decide), if_pos (by decide), if_pos (by omega), show wrap64 (3 + 1) = 4 from by kernel_rfl, if_neg (by decide)]
  generalize rd l 0 = a at *
  generalize rd l 1 = b at *
  generalize rd l 2 = c at *
  generalize rd l 3 = e at *
  rw [show wrap64 (256 * 0) = 0 from by kernel_rfl, w64 (a := a) h0.1 (by omega), w64 (a := 0 + a) (by omega) (by omega), w64 (a := 256 * (0 + a)) (by omega) (by omega), w64 (a := b) h1.1 (by omega), w64 (a := 256 * (0 + a) + b) (by omega) (by omega),
    w64 (a := 256 * (256 * (0 + a) + b)) (by omega) (by omega), w64 (a := c) h2.1 (by omega), w64 (a := 256 * (256 * (0 + a) + b) + c) (by omega) (by omega), w64 (a := 256 * (256 * (256 * (0 + a) + b) + c)) (by omega) (by omega), w64 (a := e) h3.1 (by omega), w64 (a := 256 * (256 * (256 * (0 + a) + b) + c) + e) (by omega) (by omega)]
  congr 1
  omega

theorem ref_get_loop (l : List Int) (hb : ∀ x ∈ l, 0 ≤ x ∧ x ≤ 255) (hl : 48 ≤ l.length) (d : Nat) : ∀ (k i : Nat) (acc : List Int), i + d = 12 → acc.length ≤ i → d + 6 < k →
    marlineref19_Get.l0 k l (i : Int) 49189 0 0 0 0 acc = some (49189, 0, 0, [], 0, 0, [], [], [], acc ++ getN d (l.drop (4 * i)), 0) := by
  induction d with
  | zero =>
    intro k i acc hi ha hk
    obtain ⟨k, rfl⟩ : ∃ m, k = m + 1 := ⟨k - 1, by omega⟩
    simp only [marlineref19_Get.l0]
    rw [if_neg (by omega)]
    simp [getN]
  | succ d ih =>
    intro k i acc hi ha hk
    obtain ⟨k, rfl⟩ : ∃ m, k = m + 1 := ⟨k - 1, by omega⟩
    simp only [marlineref19_Get.l0]
    have e4 : wrap64 (4 * (i : Int)) = ((4 * i : Nat) : Int) := by rw [w64 (by omega) (by omega)]; omega
    have hdb : ∀ x ∈ l.drop (4 * i), 0 ≤ x ∧ x ≤ 255 := fun x hx => hb x (List.mem_of_mem_drop hx)
    have hr := rd4_bounds _ hdb
    rw [if_pos (by omega), e4, if_pos (by omega), if_pos (by omega), Int.toNat_natCast, read4 _ hdb (by rw [List.length_drop]; omega) k (by omega), Option.bind_some, if_pos (by omega),
      show wrap64 ((i : Int) + 1) = ((i + 1 : Nat) : Int) from by rw [w64 (by omega) (by omega)]; omega, ih k (i + 1) _ (by omega) (by rw [List.length_append, List.length_singleton]; omega) (by omega)]
    rw [Int.emod_eq_of_lt hr.1 hr.2, List.append_assoc, List.singleton_append]
    simp only [getN, List.drop_drop]
    rw [show 4 * i + 4 = 4 * (i + 1) from by omega]

theorem ref_get (l : List Int) (hb : ∀ x ∈ l, 0 ≤ x ∧ x ≤ 255) : marlineref19_Get.f 40 l = some ((getSpec l).1, 0, 0, [], 0, 0, [], [], [], (getSpec l).2.1, (getSpec l).2.2) := by
  unfold marlineref19_Get.f getSpec
  by_cases h : l.length < 48
  · rw [if_pos (by omega), if_pos h]
  · rw [if_neg (by omega), if_neg h]
    have := ref_get_loop l hb (by omega) 12 40 0 [] (by omega) (by simp) (by omega)
    simpa using this

/-- How many were lost, by whole numbers. -/
def lostInt (xs ys : List Int) : Int := (rd ys 2 - rd xs 2 - rd ys 5 + rd xs 5) % 4294967296

theorem lost_loop (k : Nat) (n : Int) (h0 : -8589934592 ≤ n) (h1 : n ≤ 8589934592) : marlineref19_Lost.l0 (k + 3) n = some (n % 4294967296, true) := by
  simp only [marlineref19_Lost.l0]
  have t : ∀ x : Int, 0 ≤ x → Int.tmod x 4294967296 = x % 4294967296 := fun x a => Int.tmod_eq_emod_of_nonneg a
  have w : ∀ x : Int, -8589934592 ≤ x → x < 0 → wrap64 (x + 4294967296) = x + 4294967296 := fun x a b => by unfold wrap64; omega
  by_cases a : n < 0
  · rw [if_pos a, w n h0 a]
    by_cases b : n + 4294967296 < 0
    · rw [if_pos b, w _ (by omega) b, if_neg (by omega), t _ (by omega)]
      congr 2
      omega
    · rw [if_neg b, t _ (by omega)]
      congr 2
      omega
  · rw [if_neg a, t _ (by omega)]

theorem ref_lost (p c i s m p' c' i' s' m' : Int) (os os' : List S79) (one two data xs one' two' data' ys : List Int) (hx : ∀ x ∈ xs, 0 ≤ x ∧ x < 4294967296) (hy : ∀ x ∈ ys, 0 ≤ x ∧ x < 4294967296) :
    marlineref19_Lost.f 6 p c i os s m one two data xs p' c' i' os' s' m' one' two' data' ys = some (if xs.length = 12 ∧ ys.length = 12 then (lostInt xs ys, true) else (0, false)) := by
  unfold marlineref19_Lost.f
  by_cases hl : xs.length = 12
  · by_cases hl' : ys.length = 12
    · rw [if_pos (by omega), if_pos ⟨hl, hl'⟩, show ((ys.length : Int) != 12) = false from by rw [hl']; rfl]
      simp only [marlineref19_Lost.j0]
      have h : ∀ (zs : List Int), (∀ x ∈ zs, 0 ≤ x ∧ x < 4294967296) → ∀ i : Int, 0 ≤ rd zs i ∧ rd zs i < 4294967296 := by
        intro zs hz i
        unfold rd
        rw [List.getD_eq_getElem?_getD]
        cases hh : zs[i.toNat]? with
        | none => simp
        | some x => simpa using hz x (List.mem_of_getElem? hh)
      have x2 := h xs hx 2
      have x5 := h xs hx 5
      have y2 := h ys hy 2
      have y5 := h ys hy 5
      rw [if_neg (by decide), if_pos (by omega), if_pos (by omega), if_pos (by omega), if_pos (by omega)]
      unfold lostInt
      generalize rd xs 2 = a at *
      generalize rd xs 5 = b at *
      generalize rd ys 2 = e at *
      generalize rd ys 5 = f at *
      rw [w64 (a := e) y2.1 (by omega), w64 (a := a) x2.1 (by omega), w64 (a := f) y5.1 (by omega), w64 (a := b) x5.1 (by omega), show wrap64 (e - a) = e - a from by unfold wrap64; omega, show wrap64 (e - a - f) = e - a - f from by unfold wrap64; omega, show wrap64 (e - a - f + b) = e - a - f + b from by unfold wrap64; omega]
      exact lost_loop 2 _ (by omega) (by omega)
    · rw [if_pos (by omega), if_neg (fun h => hl' h.2), show ((ys.length : Int) != 12) = true from by rw [bne_iff_ne]; omega]
      simp only [marlineref19_Lost.j0]
      rw [if_pos trivial]
  · rw [if_neg (by omega), if_neg (fun h => hl h.1)]
    simp only [marlineref19_Lost.j0]
    rw [if_pos trivial]

end Go.Proofs.Ytelmlkcoeihhjaa.Ls
