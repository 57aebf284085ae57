/- The document's functions of layer 19, and whether a packet is small, by what they answer. No conditions but that slices read as lists. -/
import Derived.Test.YtelmlkcoeihhjaaLs
import Derived.Test.YtelmlkcoeihhjaaLr
import Derived.Test.YtelmlkcoeihhjaaLv
namespace Go.Proofs.Ytelmlkcoeihhjaa.Lt
open Go.RowKit Go.Proofs.Ytelmlkcoeihhjaa.Fl Go.Proofs.Ytelmlkcoeihhjaa.My Go.Proofs.Ytelmlkcoeihhjaa.Lo Go.Proofs.Ytelmlkcoeihhjaa.Lp Go.Proofs.Ytelmlkcoeihhjaa.Lq Go.Proofs.Ytelmlkcoeihhjaa.Lr Go.Proofs.Ytelmlkcoeihhjaa.Ls Go.Proofs.YtelmlkcoeihhjaaW.PrintWords Go.Proofs.YtelmlkcoeihhjaaW.PrintLast Go.Proofs.YtelmlkcoeihhjaaW.PrintMore
set_option linter.unusedVariables false
set_option linter.unusedSimpArgs false

theorem few_any (p c i : Int) (A3 : Option Addr) (c3 : Nat) (s m : Int) (A6 : Option Addr) (c6 : Nat) (A7 : Option Addr) (c7 : Nat) (A8 : Option Addr) (c8 : Nat) (A9 : Option Addr) (c9 : Nat)
    (os : List S79) (one two data xs : List Int) (w : World)
    (h3 : k79.C w A3 os.length os ∧ os.length ≤ c3) (h6 : (Kd.int .u8).C w A6 one.length one ∧ one.length ≤ c6) (h7 : (Kd.int .u8).C w A7 two.length two ∧ two.length ≤ c7) (h8 : (Kd.int .u8).C w A8 data.length data ∧ data.length ≤ c8) (h9 : (Kd.int .u32).C w A9 xs.length xs ∧ xs.length ≤ c9)
    (hm : os.length ≤ maxLen) :
    ∃ r : Bool, (r = true → os.length ≤ 60 ∧ one.length ≤ 600 ∧ two.length ≤ 600 ∧ data.length ≤ 600 ∧ xs.length ≤ 40) ∧
      ∀ w1, Below w.heap.size w w1 → Calls Try.prog 26 #[pkt p c i A3 os.length c3 s m A6 one.length c6 A7 two.length c7 A8 data.length c8 A9 xs.length c9] w1 fun e w' => e = .returned (.bool r) ∧ Below w1.heap.size w1 w' := by
  obtain ⟨r, hr, hr2⟩ := few_prog p c i os s m one two data xs (by unfold maxLen at hm; omega)
  exact ⟨r, hr2, fun w1 hb => marlinelaw15_Few.calls (os.length + 1) p c i A3 c3 os s m A6 c6 one A7 c7 two A8 c8 data A9 c9 xs r w1 (Kd.C_below h3.1 hb) h3.2 (Kd.C_below h6.1 hb) h6.2 (Kd.C_below h7.1 hb) h7.2 (Kd.C_below h8.1 hb) h8.2 (Kd.C_below h9.1 hb) h9.2 hr⟩

theorem refput_any (p c i : Int) (A3 : Option Addr) (c3 : Nat) (s m : Int) (A6 : Option Addr) (c6 : Nat) (A7 : Option Addr) (c7 : Nat) (A8 : Option Addr) (c8 : Nat) (A9 : Option Addr) (c9 : Nat)
    (os : List S79) (one two data xs : List Int) (w : World)
    (h3 : k79.C w A3 os.length os) (k3 : os.length ≤ c3) (h6 : (Kd.int .u8).C w A6 one.length one) (k6 : one.length ≤ c6) (h7 : (Kd.int .u8).C w A7 two.length two) (k7 : two.length ≤ c7) (h8 : (Kd.int .u8).C w A8 data.length data) (k8 : data.length ≤ c8) (h9 : (Kd.int .u32).C w A9 xs.length xs) (k9 : xs.length ≤ c9)
    (hx : ∀ x ∈ xs, 0 ≤ x ∧ x < 4294967296) :
    Calls Try.prog 27 #[pkt p c i A3 os.length c3 s m A6 one.length c6 A7 two.length c7 A8 data.length c8 A9 xs.length c9] w fun e w' => ∃ A' c', e = .returned (.tuple #[.slice A' (putSpec p c i os.length s m one.length two.length data.length xs).1.length c', .int .i64 (putSpec p c i os.length s m one.length two.length data.length xs).2]) ∧
      (putSpec p c i os.length s m one.length two.length data.length xs).1.length ≤ c' ∧ (Kd.int .u8).C w' A' (putSpec p c i os.length s m one.length two.length data.length xs).1.length (putSpec p c i os.length s m one.length two.length data.length xs).1 ∧ Below w.heap.size w w' := by
  refine (marlineref19_Put.calls 40 p c i A3 c3 os s m A6 c6 one A7 c7 two A8 c8 data A9 c9 xs _ _ w h3 k3 h6 k6 h7 k7 h8 k8 h9 k9 (ref_put p c i os s m one two data xs hx)).mono ?_
  rintro e w' ⟨v, rfl, hR, hb⟩
  obtain ⟨A', c', rfl, hc', hC⟩ := Kd.R_reads hR
  exact ⟨A', c', rfl, hc', hC, hb⟩

theorem refget_any (A : Option Addr) (n c : Nat) (l : List Int) (w : World) (h : (Kd.int .u8).C w A n l) (k : n ≤ c) (hb : ∀ x ∈ l, 0 ≤ x ∧ x ≤ 255) :
    Calls Try.prog 28 #[.slice A n c] w fun e w' => ∃ A3 c3 A6 c6 A7 c7 A8 c8 A9 c9, e = .returned (.tuple #[pkt (getSpec l).1 0 0 A3 0 c3 0 0 A6 0 c6 A7 0 c7 A8 0 c8 A9 (getSpec l).2.1.length c9, .int .i64 (getSpec l).2.2]) ∧
      (k79.C w' A3 0 [] ∧ (Kd.int .u8).C w' A6 0 [] ∧ (Kd.int .u8).C w' A7 0 [] ∧ (Kd.int .u8).C w' A8 0 []) ∧ (getSpec l).2.1.length ≤ c9 ∧ (Kd.int .u32).C w' A9 (getSpec l).2.1.length (getSpec l).2.1 ∧ Below w.heap.size w w' := by
  obtain rfl : l.length = n := h.1
  refine (marlineref19_Get.calls 40 A c l _ _ _ _ _ _ _ _ _ _ _ w h k (ref_get l hb)).mono ?_
  rintro e w' ⟨v3, v6, v7, v8, v9, rfl, h3, h6, h7, h8, h9, hb⟩
  obtain ⟨A3, c3, rfl, _, g3⟩ := Kd.S_reads h3
  obtain ⟨A6, c6, rfl, _, g6⟩ := Kd.R_reads h6
  obtain ⟨A7, c7, rfl, _, g7⟩ := Kd.R_reads h7
  obtain ⟨A8, c8, rfl, _, g8⟩ := Kd.R_reads h8
  obtain ⟨A9, c9, rfl, k9, g9⟩ := Kd.R_reads h9
  exact ⟨A3, c3, A6, c6, A7, c7, A8, c8, A9, c9, rfl, ⟨g3, g6, g7, g8⟩, k9, g9, hb⟩

/-- How many were lost, and whether that can be told. -/
def lostSpec (xs ys : List Int) : Int × Bool := if xs.length = 12 ∧ ys.length = 12 then (lostInt xs ys, true) else (0, false)

theorem lost_eq (xs ys : List Int) : Lv.lost xs ys = lostInt xs ys := by
  simp only [Lv.lost, lostInt, IntKind.wrap_u32]
  omega

theorem lost_any (p c i s m p' c' i' s' m' : Int) (Ao Aa Ab Ad Bo Ba Bb Bd : Option Addr) (no na nb nd no' na' nb' nd' co ca cb cd co' ca' cb' cd' : Nat) (A B : Option Addr) (nA nB cA cB : Nat) (xs ys : List Int) (w : World)
    (hxs : Kd.C (Kd.int .u32) w A nA xs) (hys : Kd.C (Kd.int .u32) w B nB ys) (hA : nA ≤ maxLen) (hB : nB ≤ maxLen) :
    Calls Try.prog 14 #[pkt p c i Ao no co s m Aa na ca Ab nb cb Ad nd cd A nA cA, pkt p' c' i' Bo no' co' s' m' Ba na' ca' Bb nb' cb' Bd nd' cd' B nB cB] w
      fun e w' => e = .returned (.tuple #[.int .u32 (lostSpec xs ys).1, .bool (lostSpec xs ys).2]) ∧ Below w.heap.size w w' := by
  have ha := hxs.1
  have hb := hys.1
  unfold lostSpec
  by_cases h : xs.length = 12 ∧ ys.length = 12
  · rw [if_pos h]
    rw [h.1] at ha
    rw [h.2] at hb
    subst ha hb
    rw [← lost_eq]
    exact Lv.lost_yes p c i s m p' c' i' s' m' Ao Aa Ab Ad Bo Ba Bb Bd no na nb nd no' na' nb' nd' co ca cb cd co' ca' cb' cd' A B cA cB xs ys w hxs hys
  · rw [if_neg h]
    exact Lv.lost_no p c i s m p' c' i' s' m' Ao Aa Ab Ad Bo Ba Bb Bd no na nb nd no' na' nb' nd' co ca cb cd co' ca' cb' cd' A B nA nB cA cB w (by omega) hA hB

theorem reflost_any (p c i s m p' c' i' s' m' : Int) (A3 A6 A7 A8 A9 B3 B6 B7 B8 B9 : Option Addr) (c3 c6 c7 c8 c9 d3 d6 d7 d8 d9 : Nat) (os os' : List S79) (one two data xs one' two' data' ys : List Int) (w : World)
    (h3 : k79.C w A3 os.length os) (k3 : os.length ≤ c3) (h6 : (Kd.int .u8).C w A6 one.length one) (k6 : one.length ≤ c6) (h7 : (Kd.int .u8).C w A7 two.length two) (k7 : two.length ≤ c7) (h8 : (Kd.int .u8).C w A8 data.length data) (k8 : data.length ≤ c8) (h9 : (Kd.int .u32).C w A9 xs.length xs) (k9 : xs.length ≤ c9)
    (g3 : k79.C w B3 os'.length os') (l3 : os'.length ≤ d3) (g6 : (Kd.int .u8).C w B6 one'.length one') (l6 : one'.length ≤ d6) (g7 : (Kd.int .u8).C w B7 two'.length two') (l7 : two'.length ≤ d7) (g8 : (Kd.int .u8).C w B8 data'.length data') (l8 : data'.length ≤ d8) (g9 : (Kd.int .u32).C w B9 ys.length ys) (l9 : ys.length ≤ d9)
    (hx : ∀ x ∈ xs, 0 ≤ x ∧ x < 4294967296) (hy : ∀ x ∈ ys, 0 ≤ x ∧ x < 4294967296) :
    Calls Try.prog 29 #[pkt p c i A3 os.length c3 s m A6 one.length c6 A7 two.length c7 A8 data.length c8 A9 xs.length c9, pkt p' c' i' B3 os'.length d3 s' m' B6 one'.length d6 B7 two'.length d7 B8 data'.length d8 B9 ys.length d9] w
      fun e w' => e = .returned (.tuple #[.int .i64 (lostSpec xs ys).1, .bool (lostSpec xs ys).2]) ∧ Below w.heap.size w w' :=
  marlineref19_Lost.calls 6 p c i A3 c3 os s m A6 c6 one A7 c7 two A8 c8 data A9 c9 xs p' c' i' B3 d3 os' s' m' B6 d6 one' B7 d7 two' B8 d8 data' B9 d9 ys _ _ w h3 k3 h6 k6 h7 k7 h8 k8 h9 k9 g3 l3 g6 l6 g7 l7 g8 l8 g9 l9 (ref_lost p c i s m p' c' i' s' m' os os' one two data xs one' two' data' ys hx hy)

end Go.Proofs.Ytelmlkcoeihhjaa.Lt
