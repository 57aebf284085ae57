/- Any packet as it is written, the report that any octets begin with, and how many were lost between any two, is as the document says: the walk of the law marlinelaw19.LqrTells. No conditions but that what came in reads as lists. -/
import Derived.Test.YtelmlkcoeihhjaaLt
import Derived.Test.YtelmlkcoeihhjaaLb
namespace Go.Proofs.Ytelmlkcoeihhjaa.Lw
open Go.RowKit Go.Proofs.Ytelmlkcoeihhjaa.Fl Go.Proofs.Ytelmlkcoeihhjaa.My Go.Proofs.Ytelmlkcoeihhjaa.Lo Go.Proofs.Ytelmlkcoeihhjaa.Lp Go.Proofs.Ytelmlkcoeihhjaa.Lq Go.Proofs.Ytelmlkcoeihhjaa.Lr Go.Proofs.Ytelmlkcoeihhjaa.Ls Go.Proofs.Ytelmlkcoeihhjaa.Lt Go.Proofs.YtelmlkcoeihhjaaW.PrintWords Go.Proofs.YtelmlkcoeihhjaaW.PrintLast Go.Proofs.YtelmlkcoeihhjaaW.PrintMore
open Go.Proofs.Ytelmlkcoeihhjaa.Lb (blk_keep new1)
set_option linter.unusedVariables false
set_option linter.unusedSimpArgs false

theorem putSpec_len (p c i : Int) (n3 : Nat) (s m : Int) (n6 n7 n8 : Nat) (xs : List Int) : (putSpec p c i n3 s m n6 n7 n8 xs).1.length ≤ 48 := by
  unfold putSpec
  split
  · exact Nat.zero_le _
  · split
    · exact Nat.zero_le _
    · split
      · exact Nat.zero_le _
      · rename_i h
        simp only [flat_length]
        omega
theorem getSpec_len (l : List Int) : (getSpec l).2.1.length ≤ 12 := by
  unfold getSpec
  split
  · exact Nat.zero_le _
  · simp only [getN_length]
    omega
theorem nil_below {α : Type} {d : Kd α} {W W' : World} {E3 E6 E7 E8 : Option Addr} (h : d.C W E3 0 [] ∧ (Kd.int .u8).C W E6 0 [] ∧ (Kd.int .u8).C W E7 0 [] ∧ (Kd.int .u8).C W E8 0 []) (hb : Below W.heap.size W W') :
    d.C W' E3 0 [] ∧ (Kd.int .u8).C W' E6 0 [] ∧ (Kd.int .u8).C W' E7 0 [] ∧ (Kd.int .u8).C W' E8 0 [] :=
  ⟨Kd.C_below h.1 hb, Kd.C_below h.2.1 hb, Kd.C_below h.2.2.1 hb, Kd.C_below h.2.2.2 hb⟩

theorem equal_below (A0 : Option Addr) (n0 c0 : Nat) (xs : List Int) (A1 : Option Addr) (n1 c1 : Nat) (ys : List Int) (w : World) (b : Bool) (h0 : Kd.C (Kd.int .u8) w A0 n0 xs) (k0 : n0 ≤ c0) (h1 : Kd.C (Kd.int .u8) w A1 n1 ys) (k1 : n1 ≤ c1) (hm : n0 ≤ 4294967296) (hb : decide (xs = ys) = b) :
    Calls Try.prog 16 #[.slice A0 n0 c0, .slice A1 n1 c1] w fun e w' => e = .returned (.bool b) ∧ Below w.heap.size w w' :=
  (equal_any A0 n0 c0 xs A1 n1 c1 ys w b h0 k0 h1 k1 hm hb).mono fun _ _ ⟨h, hd⟩ => ⟨h, hd.below⟩

theorem lostSpec_range (xs ys : List Int) : 0 ≤ (lostSpec xs ys).1 ∧ (lostSpec xs ys).1 < 4294967296 := by
  unfold lostSpec
  split
  · simp only [lostInt]
    omega
  · decide

set_option maxHeartbeats 4000000 in
set_option maxRecDepth 100000 in
theorem law_walk (p c i s m p' c' i' s' m' : Int) (A3 A6 A7 A8 A9 B3 B6 B7 B8 B9 : Option Addr) (c3 c6 c7 c8 c9 d3 d6 d7 d8 d9 : Nat) (os os' : List S79) (one two data xs one' two' data' ys : List Int)
    (A : Option Addr) (n cap : Nat) (l : List Int) (w : World)
    (h3 : k79.C w A3 os.length os ∧ os.length ≤ c3) (h6 : (Kd.int .u8).C w A6 one.length one ∧ one.length ≤ c6) (h7 : (Kd.int .u8).C w A7 two.length two ∧ two.length ≤ c7) (h8 : (Kd.int .u8).C w A8 data.length data ∧ data.length ≤ c8) (h9 : (Kd.int .u32).C w A9 xs.length xs ∧ xs.length ≤ c9)
    (hc : 0 ≤ c ∧ c ≤ 255) (hi : 0 ≤ i ∧ i ≤ 255) (hx : ∀ x ∈ xs, 0 ≤ x ∧ x < 4294967296) (hm : os.length ≤ maxLen)
    (g3 : k79.C w B3 os'.length os' ∧ os'.length ≤ d3) (g6 : (Kd.int .u8).C w B6 one'.length one' ∧ one'.length ≤ d6) (g7 : (Kd.int .u8).C w B7 two'.length two' ∧ two'.length ≤ d7) (g8 : (Kd.int .u8).C w B8 data'.length data' ∧ data'.length ≤ d8) (g9 : (Kd.int .u32).C w B9 ys.length ys ∧ ys.length ≤ d9)
    (hc' : 0 ≤ c' ∧ c' ≤ 255) (hi' : 0 ≤ i' ∧ i' ≤ 255) (hy : ∀ x ∈ ys, 0 ≤ x ∧ x < 4294967296) (hm' : os'.length ≤ maxLen)
    (hl : (Kd.int .u8).C w A n l) (hcap : n ≤ cap) (hb8 : ∀ x ∈ l, 0 ≤ x ∧ x ≤ 255) (hn : n ≤ maxLen) :
    Calls Try.prog 8 #[pkt p c i A3 os.length c3 s m A6 one.length c6 A7 two.length c7 A8 data.length c8 A9 xs.length c9, pkt p' c' i' B3 os'.length d3 s' m' B6 one'.length d6 B7 two'.length d7 B8 data'.length d8 B9 ys.length d9, .slice A n cap] w
      fun e w' => e = .returned (.bool true) ∧ Below w.heap.size w w' := by
  obtain ⟨r1, hr1, few1⟩ := few_any p c i A3 c3 s m A6 c6 A7 c7 A8 c8 A9 c9 os one two data xs w h3 h6 h7 h8 h9 hm
  obtain ⟨r2, hr2, few2⟩ := few_any p' c' i' B3 d3 s' m' B6 d6 B7 d7 B8 d8 B9 d9 os' one' two' data' ys w g3 g6 g7 g8 g9 hm'
  have H3 := Aside0.mk h3
  have H6 := Aside0.mk h6
  have H7 := Aside0.mk h7
  have H8 := Aside0.mk h8
  have H9 := Aside0.mk h9
  have G3 := Aside0.mk g3
  have G6 := Aside0.mk g6
  have G7 := Aside0.mk g7
  have G8 := Aside0.mk g8
  have G9 := Aside0.mk g9
  have HC := Aside0.mk hc
  have HI := Aside0.mk hi
  have HX := Aside0.mk hx
  have HY := Aside0.mk hy
  have HL := Aside0.mk hl
  have HCAP := Aside0.mk hcap
  have H255 := Aside0.mk hb8
  have HR1 := Aside0.mk hr1
  have HR2 := Aside0.mk hr2
  have F1 := Aside0.mk few1
  have F2 := Aside0.mk few2
  clear h3 h6 h7 h8 h9 g3 g6 g7 g8 g9 hc hi hx hy hl hcap hb8 hr1 hr2 few1 few2 hm hm' hc' hi'
  go_enter Try.func8, Try.ntmps8
  go_wp2_with (fail)
  refine (speaks_any _).mono ?_
  rintro e w1 ⟨rfl, hb⟩
  have HP := Aside0.mk (blk_keep (new2_0 w (.cells #[.int .u16 p, .int .u8 c, .int .u8 i, .slice A3 os.length c3, .int .u16 s, .int .u32 m, .slice A6 one.length c6, .slice A7 two.length c7, .slice A8 data.length c8, .slice A9 xs.length c9] 45) (.cells #[.int .u16 p', .int .u8 c', .int .u8 i', .slice B3 os'.length d3, .int .u16 s', .int .u32 m', .slice B6 one'.length d6, .slice B7 two'.length d7, .slice B8 data'.length d8, .slice B9 ys.length d9] 45)) hb)
  have HO := Aside0.mk (blk_keep (new2_1 w (.cells #[.int .u16 p, .int .u8 c, .int .u8 i, .slice A3 os.length c3, .int .u16 s, .int .u32 m, .slice A6 one.length c6, .slice A7 two.length c7, .slice A8 data.length c8, .slice A9 xs.length c9] 45) (.cells #[.int .u16 p', .int .u8 c', .int .u8 i', .slice B3 os'.length d3, .int .u16 s', .int .u32 m', .slice B6 one'.length d6, .slice B7 two'.length d7, .slice B8 data'.length d8, .slice B9 ys.length d9] 45)) hb)
  have X := Aside0.mk (below_step (below_alloc (below_alloc (Below.refl _ w) (.cells #[.int .u16 p, .int .u8 c, .int .u8 i, .slice A3 os.length c3, .int .u16 s, .int .u32 m, .slice A6 one.length c6, .slice A7 two.length c7, .slice A8 data.length c8, .slice A9 xs.length c9] 45)) (.cells #[.int .u16 p', .int .u8 c', .int .u8 i', .slice B3 os'.length d3, .int .u16 s', .int .u32 m', .slice B6 one'.length d6, .slice B7 two'.length d7, .slice B8 data'.length d8, .slice B9 ys.length d9] 45)) hb)
  clear hb
  obtain ⟨gp, hgp⟩ : ∃ gp, w.heap.size = gp := ⟨_, rfl⟩
  have HGP := Aside0.mk hgp
  rw [hgp] at HP HO ⊢
  clear hgp
  obtain ⟨p0, p1, p2, p3, p4, p5, p6, p7, p8, p9⟩ := cells10 HP.out
  go_wp2_with (fail)
  refine (F1.out w1 X.out).mono ?_
  rintro e w2 ⟨rfl, hb⟩
  clear p0 p1 p2 p3 p4 p5 p6 p7 p8 p9
  replace HP := Aside0.mk (blk_keep HP.out hb)
  replace HO := Aside0.mk (blk_keep HO.out hb)
  replace X := Aside0.mk (below_step X.out hb)
  clear hb F1
  cases r1 with
  | false =>
    go_wp2_with (fail)
    refine (speaks_any _).mono ?_
    rintro e w9 ⟨rfl, hb⟩
    have XF := Aside0.mk (below_step X.out hb)
    clear hb
    go_wp2
    go_ret
    exact ⟨rfl, XF.out⟩
  | true =>
    obtain ⟨q0, q1, q2, q3, q4, q5, q6, q7, q8, q9⟩ := cells10 HO.out
    go_wp2_with (fail)
    refine (F2.out w2 X.out).mono ?_
    rintro e w3 ⟨rfl, hb⟩
    clear q0 q1 q2 q3 q4 q5 q6 q7 q8 q9
    replace HP := Aside0.mk (blk_keep HP.out hb)
    replace HO := Aside0.mk (blk_keep HO.out hb)
    replace X := Aside0.mk (below_step X.out hb)
    clear hb F2
    cases r2 with
    | false =>
      go_wp2_with (fail)
      refine (speaks_any _).mono ?_
      rintro e w9 ⟨rfl, hb⟩
      have XF := Aside0.mk (below_step X.out hb)
      clear hb
      go_wp2
      go_ret
      exact ⟨rfl, XF.out⟩
    | true =>
      by_cases h600 : 600 < n
      · have g1 : decide ((600 : Int) < (n : Int)) = true := decide_eq_true (by omega)
        clear h600
        go_wp2_with (fail)
        refine (speaks_any _).mono ?_
        rintro e w9 ⟨rfl, hb⟩
        have XF := Aside0.mk (below_step X.out hb)
        clear hb
        go_wp2
        go_ret
        exact ⟨rfl, XF.out⟩
      · have g1 : decide ((600 : Int) < (n : Int)) = false := decide_eq_false (by omega)
        clear h600
        obtain ⟨p0, p1, p2, p3, p4, p5, p6, p7, p8, p9⟩ := cells10 HP.out
        obtain ⟨⟨b60, b6, b7, b8, b9⟩, e60, e6, e7, e8, e9⟩ := And.intro (HR1.out (by simp)) (HR2.out (by simp))
        have BB := Aside0.mk (show (os.length ≤ 60 ∧ one.length ≤ 600 ∧ two.length ≤ 600 ∧ data.length ≤ 600 ∧ xs.length ≤ 40) ∧ (os'.length ≤ 60 ∧ ys.length ≤ 40) from ⟨⟨b60, b6, b7, b8, b9⟩, e60, e9⟩)
        clear b60 b6 b7 b8 b9 e60 e6 e7 e8 e9 HR1 HR2
        go_wp2_with (fail)
        refine (law15_Of_any _ _ _ _ _ _ _ _ _ _ _ _ _ _ _ _ _ _ _ _ os _ (Kd.C_below H3.out.1 X.out) (by have := BB.out; omega)).mono ?_
        rintro e w4 ⟨A', c4, rfl, kc, hC, hb⟩
        clear p0 p1 p2 p3 p4 p5 p6 p7 p8 p9
        replace HP := Aside0.mk (blk_keep HP.out hb)
        replace HO := Aside0.mk (blk_keep HO.out hb)
        replace X := Aside0.mk (below_step X.out hb)
        have HC4 := Aside0.mk hC
        have KC4 := Aside0.mk kc
        clear hb hC kc
        go_wp2_with (fail)
        refine (put_any _ _ _ _ _ _ _ _ _ _ _ _ _ _ _ _ _ _ _ _ (os.map Lo.of79) one two data xs w4 HC4.out KC4.out (Kd.C_below H6.out.1 X.out) H6.out.2 (Kd.C_below H7.out.1 X.out) H7.out.2 (Kd.C_below H8.out.1 X.out) H8.out.2 (Kd.C_below H9.out.1 X.out) H9.out.2 HC.out HI.out (by have := BB.out; omega) (by have := BB.out; omega) (by have := BB.out; omega) (by have := BB.out; omega) HX.out).mono ?_
        rintro e w5 ⟨Ax, cx, rfl, kx, hCx, hb⟩
        replace HP := Aside0.mk (blk_keep HP.out hb)
        replace HO := Aside0.mk (blk_keep HO.out hb)
        replace X := Aside0.mk (below_step X.out hb)
        have HCX := Aside0.mk hCx
        have KX := Aside0.mk kx
        clear hb hCx kx HC4 KC4
        obtain ⟨p0, p1, p2, p3, p4, p5, p6, p7, p8, p9⟩ := cells10 HP.out
        go_wp2_with (fail)
        refine (refput_any _ _ _ _ _ _ _ _ _ _ _ _ _ _ _ os one two data xs w5 (Kd.C_below H3.out.1 X.out) H3.out.2 (Kd.C_below H6.out.1 X.out) H6.out.2 (Kd.C_below H7.out.1 X.out) H7.out.2 (Kd.C_below H8.out.1 X.out) H8.out.2 (Kd.C_below H9.out.1 X.out) H9.out.2 HX.out).mono ?_
        rintro e w6 ⟨Ay, cy, rfl, ky, hCy, hb⟩
        clear p0 p1 p2 p3 p4 p5 p6 p7 p8 p9
        replace HP := Aside0.mk (blk_keep HP.out hb)
        replace HO := Aside0.mk (blk_keep HO.out hb)
        replace X := Aside0.mk (below_step X.out hb)
        replace HCX := Aside0.mk (Kd.C_below HCX.out hb)
        have HCY := Aside0.mk hCy
        have KY := Aside0.mk ky
        have HPL := Aside0.mk (putSpec_len p c i os.length s m one.length two.length data.length xs)
        clear hb hCy ky
        generalize putSpec p c i os.length s m one.length two.length data.length xs = ps at HCX KX HCY KY HPL ⊢
        go_wp2_with (fail)
        refine (get_any A n cap l w6 (Kd.C_below HL.out X.out) HCAP.out H255.out).mono ?_
        rintro e w7 ⟨E3, f3, E6, f6, E7, f7, E8, f8, E9, f9, rfl, hnil, kf9, hE9, _, hb⟩
        replace HP := Aside0.mk (blk_keep HP.out hb)
        replace HO := Aside0.mk (blk_keep HO.out hb)
        replace X := Aside0.mk (below_step X.out hb)
        replace HCX := Aside0.mk (Kd.C_below HCX.out hb)
        replace HCY := Aside0.mk (Kd.C_below HCY.out hb)
        have HNE := Aside0.mk hnil
        have KE := Aside0.mk kf9
        have HE := Aside0.mk hE9
        clear hb hnil kf9 hE9
        go_wp2_with (fail)
        have HQ := Aside0.mk (new1 w7 (.cells #[.int .u16 (getSpec l).1, .int .u8 0, .int .u8 0, .slice E3 0 f3, .int .u16 0, .int .u32 0, .slice E6 0 f6, .slice E7 0 f7, .slice E8 0 f8, .slice E9 (getSpec l).2.1.length f9] 34))
        have hb := below_alloc (Below.refl _ w7) (.cells #[.int .u16 (getSpec l).1, .int .u8 0, .int .u8 0, .slice E3 0 f3, .int .u16 0, .int .u32 0, .slice E6 0 f6, .slice E7 0 f7, .slice E8 0 f8, .slice E9 (getSpec l).2.1.length f9] 34)
        replace HP := Aside0.mk (blk_keep HP.out hb)
        replace HO := Aside0.mk (blk_keep HO.out hb)
        replace X := Aside0.mk (below_step X.out hb)
        replace HCX := Aside0.mk (Kd.C_below HCX.out hb)
        replace HCY := Aside0.mk (Kd.C_below HCY.out hb)
        replace HNE := Aside0.mk (nil_below HNE.out hb)
        replace HE := Aside0.mk (Kd.C_below HE.out hb)
        obtain ⟨g11, hg⟩ : ∃ g, w7.heap.size = g := ⟨_, rfl⟩
        rw [hg] at HQ ⊢
        clear hg hb
        generalize w7.alloc (.cells #[.int .u16 (getSpec l).1, .int .u8 0, .int .u8 0, .slice E3 0 f3, .int .u16 0, .int .u32 0, .slice E6 0 f6, .slice E7 0 f7, .slice E8 0 f8, .slice E9 (getSpec l).2.1.length f9] 34) = w8 at HQ HP HO X HCX HCY HNE HE ⊢
        refine (refget_any A n cap l w8 (Kd.C_below HL.out X.out) HCAP.out H255.out).mono ?_
        rintro e w9 ⟨J3, j3, J6, j6, J7, j7, J8, j8, J9, j9, rfl, hnil, kf9, hE9, hb⟩
        replace HP := Aside0.mk (blk_keep HP.out hb)
        replace HO := Aside0.mk (blk_keep HO.out hb)
        replace X := Aside0.mk (below_step X.out hb)
        replace HQ := Aside0.mk (blk_keep HQ.out hb)
        replace HCX := Aside0.mk (Kd.C_below HCX.out hb)
        replace HCY := Aside0.mk (Kd.C_below HCY.out hb)
        replace HNE := Aside0.mk (nil_below HNE.out hb)
        replace HE := Aside0.mk (Kd.C_below HE.out hb)
        have HNJ := Aside0.mk hnil
        have KJ := Aside0.mk kf9
        have HJ := Aside0.mk hE9
        clear hb hnil kf9 hE9
        go_wp2_with (fail)
        have HZ := Aside0.mk (new1 w9 (.cells #[.int .u16 (getSpec l).1, .int .u8 0, .int .u8 0, .slice J3 0 j3, .int .u16 0, .int .u32 0, .slice J6 0 j6, .slice J7 0 j7, .slice J8 0 j8, .slice J9 (getSpec l).2.1.length j9] 45))
        have hb := below_alloc (Below.refl _ w9) (.cells #[.int .u16 (getSpec l).1, .int .u8 0, .int .u8 0, .slice J3 0 j3, .int .u16 0, .int .u32 0, .slice J6 0 j6, .slice J7 0 j7, .slice J8 0 j8, .slice J9 (getSpec l).2.1.length j9] 45)
        replace HP := Aside0.mk (blk_keep HP.out hb)
        replace HO := Aside0.mk (blk_keep HO.out hb)
        replace X := Aside0.mk (below_step X.out hb)
        replace HQ := Aside0.mk (blk_keep HQ.out hb)
        replace HCX := Aside0.mk (Kd.C_below HCX.out hb)
        replace HCY := Aside0.mk (Kd.C_below HCY.out hb)
        replace HNE := Aside0.mk (nil_below HNE.out hb)
        replace HE := Aside0.mk (Kd.C_below HE.out hb)
        replace HNJ := Aside0.mk (nil_below HNJ.out hb)
        replace HJ := Aside0.mk (Kd.C_below HJ.out hb)
        obtain ⟨g13, hg⟩ : ∃ g, w9.heap.size = g := ⟨_, rfl⟩
        rw [hg] at HZ ⊢
        clear hg hb
        generalize w9.alloc (.cells #[.int .u16 (getSpec l).1, .int .u8 0, .int .u8 0, .slice J3 0 j3, .int .u16 0, .int .u32 0, .slice J6 0 j6, .slice J7 0 j7, .slice J8 0 j8, .slice J9 (getSpec l).2.1.length j9] 45) = w10 at HZ HQ HP HO X HCX HCY HNE HE HNJ HJ ⊢
        obtain ⟨p0, p1, p2, p3, p4, p5, p6, p7, p8, p9⟩ := cells10 HP.out
        obtain ⟨q0, q1, q2, q3, q4, q5, q6, q7, q8, q9⟩ := cells10 HO.out
        go_region_held3 (fun w' => w'.cell? ⟨gp, 0, none⟩ = some (.int .u16 p) ∧ w'.cell? ⟨gp, 1, none⟩ = some (.int .u8 c) ∧ w'.cell? ⟨gp, 2, none⟩ = some (.int .u8 i) ∧ w'.cell? ⟨gp, 3, none⟩ = some (.slice A3 os.length c3) ∧ w'.cell? ⟨gp, 4, none⟩ = some (.int .u16 s) ∧ w'.cell? ⟨gp, 5, none⟩ = some (.int .u32 m) ∧ w'.cell? ⟨gp, 6, none⟩ = some (.slice A6 one.length c6) ∧ w'.cell? ⟨gp, 7, none⟩ = some (.slice A7 two.length c7) ∧ w'.cell? ⟨gp, 8, none⟩ = some (.slice A8 data.length c8) ∧ w'.cell? ⟨gp, 9, none⟩ = some (.slice A9 xs.length c9) ∧ w'.cell? ⟨gp + 1, 0, none⟩ = some (.int .u16 p') ∧ w'.cell? ⟨gp + 1, 1, none⟩ = some (.int .u8 c') ∧ w'.cell? ⟨gp + 1, 2, none⟩ = some (.int .u8 i') ∧ w'.cell? ⟨gp + 1, 3, none⟩ = some (.slice B3 os'.length d3) ∧ w'.cell? ⟨gp + 1, 4, none⟩ = some (.int .u16 s') ∧ w'.cell? ⟨gp + 1, 5, none⟩ = some (.int .u32 m') ∧ w'.cell? ⟨gp + 1, 6, none⟩ = some (.slice B6 one'.length d6) ∧ w'.cell? ⟨gp + 1, 7, none⟩ = some (.slice B7 two'.length d7) ∧ w'.cell? ⟨gp + 1, 8, none⟩ = some (.slice B8 data'.length d8) ∧ w'.cell? ⟨gp + 1, 9, none⟩ = some (.slice B9 ys.length d9))
          (first | go_keep)
          (first
            | (go_at_call_of 18 (Value.slice A3 os.length c3); refine (law15_Of_any _ _ _ _ _ _ _ _ _ _ _ _ _ _ _ _ _ _ _ _ os w10.drew ?s1 ?s2).mono ?_; (case s1 => exact Kd.C_drew (Kd.C_below H3.out.1 X.out)); (case s2 => have := BB.out; omega); rintro e w11 ⟨A11, c11, rfl, kc, hC, hb1⟩; have hb := below_step (below_drew1 (Below.refl w10.heap.size w10)) hb1; replace HP := Aside0.mk (blk_keep HP.out hb); replace HO := Aside0.mk (blk_keep HO.out hb); replace X := Aside0.mk (below_step X.out hb); replace HQ := Aside0.mk (blk_keep HQ.out hb); replace HZ := Aside0.mk (blk_keep HZ.out hb); replace HCX := Aside0.mk (Kd.C_below HCX.out hb); replace HCY := Aside0.mk (Kd.C_below HCY.out hb); replace HNE := Aside0.mk (nil_below HNE.out hb); replace HE := Aside0.mk (Kd.C_below HE.out hb); replace HNJ := Aside0.mk (nil_below HNJ.out hb); replace HJ := Aside0.mk (Kd.C_below HJ.out hb); obtain ⟨p0, p1, p2, p3, p4, p5, p6, p7, p8, p9⟩ := cells10 HP.out; obtain ⟨q0, q1, q2, q3, q4, q5, q6, q7, q8, q9⟩ := cells10 HO.out; have HC11 := Aside0.mk hC; clear hb hb1 hC kc)
            | (go_at_call_of 18 (Value.slice B3 os'.length d3); refine (law15_Of_any _ _ _ _ _ _ _ _ _ _ _ _ _ _ _ _ _ _ _ _ os' w11 ?s1 ?s2).mono ?_; (case s1 => exact Kd.C_below G3.out.1 X.out); (case s2 => have := BB.out; omega); rintro e w12 ⟨A12, c12, rfl, kc, hC, hb⟩; replace HP := Aside0.mk (blk_keep HP.out hb); replace HO := Aside0.mk (blk_keep HO.out hb); replace X := Aside0.mk (below_step X.out hb); replace HQ := Aside0.mk (blk_keep HQ.out hb); replace HZ := Aside0.mk (blk_keep HZ.out hb); replace HCX := Aside0.mk (Kd.C_below HCX.out hb); replace HCY := Aside0.mk (Kd.C_below HCY.out hb); replace HNE := Aside0.mk (nil_below HNE.out hb); replace HE := Aside0.mk (Kd.C_below HE.out hb); replace HNJ := Aside0.mk (nil_below HNJ.out hb); replace HJ := Aside0.mk (Kd.C_below HJ.out hb); obtain ⟨p0, p1, p2, p3, p4, p5, p6, p7, p8, p9⟩ := cells10 HP.out; obtain ⟨q0, q1, q2, q3, q4, q5, q6, q7, q8, q9⟩ := cells10 HO.out; clear hb hC kc)
            | (go_at_call 14; refine (lost_any _ _ _ _ _ _ _ _ _ _ _ _ _ _ _ _ _ _ _ _ _ _ _ _ _ _ _ _ _ _ _ _ _ _ _ _ _ _ _ _ xs ys w12 ?s1 ?s2 ?s3 ?s4).mono ?_; (case s1 => exact Kd.C_below H9.out.1 X.out); (case s2 => exact Kd.C_below G9.out.1 X.out); (case s3 => have := BB.out; unfold maxLen; omega); (case s4 => have := BB.out; unfold maxLen; omega); rintro e w13 ⟨rfl, hb⟩; replace HP := Aside0.mk (blk_keep HP.out hb); replace HO := Aside0.mk (blk_keep HO.out hb); replace X := Aside0.mk (below_step X.out hb); replace HQ := Aside0.mk (blk_keep HQ.out hb); replace HZ := Aside0.mk (blk_keep HZ.out hb); replace HCX := Aside0.mk (Kd.C_below HCX.out hb); replace HCY := Aside0.mk (Kd.C_below HCY.out hb); replace HNE := Aside0.mk (nil_below HNE.out hb); replace HE := Aside0.mk (Kd.C_below HE.out hb); replace HNJ := Aside0.mk (nil_below HNJ.out hb); replace HJ := Aside0.mk (Kd.C_below HJ.out hb); obtain ⟨p0, p1, p2, p3, p4, p5, p6, p7, p8, p9⟩ := cells10 HP.out; obtain ⟨q0, q1, q2, q3, q4, q5, q6, q7, q8, q9⟩ := cells10 HO.out; clear hb))
        go_wp2_with (fail)
        refine (reflost_any _ _ _ _ _ _ _ _ _ _ _ _ _ _ _ _ _ _ _ _ _ _ _ _ _ _ _ _ _ _ os os' one two data xs one' two' data' ys w13 (Kd.C_below H3.out.1 X.out) H3.out.2 (Kd.C_below H6.out.1 X.out) H6.out.2 (Kd.C_below H7.out.1 X.out) H7.out.2 (Kd.C_below H8.out.1 X.out) H8.out.2 (Kd.C_below H9.out.1 X.out) H9.out.2 (Kd.C_below G3.out.1 X.out) G3.out.2 (Kd.C_below G6.out.1 X.out) G6.out.2 (Kd.C_below G7.out.1 X.out) G7.out.2 (Kd.C_below G8.out.1 X.out) G8.out.2 (Kd.C_below G9.out.1 X.out) G9.out.2 HX.out HY.out).mono ?_
        rintro e w14 ⟨rfl, hb⟩
        replace HP := Aside0.mk (blk_keep HP.out hb)
        replace HO := Aside0.mk (blk_keep HO.out hb)
        replace X := Aside0.mk (below_step X.out hb)
        replace HQ := Aside0.mk (blk_keep HQ.out hb)
        replace HZ := Aside0.mk (blk_keep HZ.out hb)
        replace HCX := Aside0.mk (Kd.C_below HCX.out hb)
        replace HCY := Aside0.mk (Kd.C_below HCY.out hb)
        replace HNE := Aside0.mk (nil_below HNE.out hb)
        replace HE := Aside0.mk (Kd.C_below HE.out hb)
        replace HNJ := Aside0.mk (nil_below HNJ.out hb)
        replace HJ := Aside0.mk (Kd.C_below HJ.out hb)
        clear hb p0 p1 p2 p3 p4 p5 p6 p7 p8 p9 q0 q1 q2 q3 q4 q5 q6 q7 q8 q9
        have hls := lostSpec_range xs ys
        generalize lostSpec xs ys = ls at hls ⊢
        have hw : IntKind.i64.wrap ls.1 = ls.1 := by rw [IntKind.wrap_i64]; omega
        clear hls
        have HG := Aside0.mk (getSpec_len l)
        generalize getSpec l = gs at HE KE HJ KJ HQ HZ HG ⊢
        obtain ⟨p0, p1, p2, p3, p4, p5, p6, p7, p8, p9⟩ := cells10 HQ.out
        obtain ⟨q0, q1, q2, q3, q4, q5, q6, q7, q8, q9⟩ := cells10 HZ.out
        go_wp2_with (fail)
        go_region_held3 (fun w' => w'.cell? ⟨g11, 0, none⟩ = some (.int .u16 gs.1) ∧ w'.cell? ⟨g11, 1, none⟩ = some (.int .u8 0) ∧ w'.cell? ⟨g11, 2, none⟩ = some (.int .u8 0) ∧ w'.cell? ⟨g11, 3, none⟩ = some (.slice E3 0 f3) ∧ w'.cell? ⟨g11, 4, none⟩ = some (.int .u16 0) ∧ w'.cell? ⟨g11, 5, none⟩ = some (.int .u32 0) ∧ w'.cell? ⟨g11, 6, none⟩ = some (.slice E6 0 f6) ∧ w'.cell? ⟨g11, 7, none⟩ = some (.slice E7 0 f7) ∧ w'.cell? ⟨g11, 8, none⟩ = some (.slice E8 0 f8) ∧ w'.cell? ⟨g11, 9, none⟩ = some (.slice E9 gs.2.1.length f9) ∧ w'.cell? ⟨g13, 0, none⟩ = some (.int .u16 gs.1) ∧ w'.cell? ⟨g13, 1, none⟩ = some (.int .u8 0) ∧ w'.cell? ⟨g13, 2, none⟩ = some (.int .u8 0) ∧ w'.cell? ⟨g13, 3, none⟩ = some (.slice J3 0 j3) ∧ w'.cell? ⟨g13, 4, none⟩ = some (.int .u16 0) ∧ w'.cell? ⟨g13, 5, none⟩ = some (.int .u32 0) ∧ w'.cell? ⟨g13, 6, none⟩ = some (.slice J6 0 j6) ∧ w'.cell? ⟨g13, 7, none⟩ = some (.slice J7 0 j7) ∧ w'.cell? ⟨g13, 8, none⟩ = some (.slice J8 0 j8) ∧ w'.cell? ⟨g13, 9, none⟩ = some (.slice J9 gs.2.1.length j9))
          (first | go_keep)
          (first
            | (go_at_call 16; refine (equal_below Ax _ cx ps.1 Ay _ cy ps.1 w14.drew true ?s1 ?s2 ?s3 ?s4 ?s5 ?s6).mono ?_; (case s1 => exact Kd.C_drew HCX.out); (case s2 => exact KX.out); (case s3 => exact Kd.C_drew HCY.out); (case s4 => exact KY.out); (case s5 => have := HPL.out; omega); (case s6 => simp); rintro e w15 ⟨rfl, hb1⟩; have hb := below_step (below_drew1 (Below.refl w14.heap.size w14)) hb1; replace HP := Aside0.mk (blk_keep HP.out hb); replace HO := Aside0.mk (blk_keep HO.out hb); replace X := Aside0.mk (below_step X.out hb); replace HQ := Aside0.mk (blk_keep HQ.out hb); replace HZ := Aside0.mk (blk_keep HZ.out hb); replace HCX := Aside0.mk (Kd.C_below HCX.out hb); replace HCY := Aside0.mk (Kd.C_below HCY.out hb); replace HNE := Aside0.mk (nil_below HNE.out hb); replace HE := Aside0.mk (Kd.C_below HE.out hb); replace HNJ := Aside0.mk (nil_below HNJ.out hb); replace HJ := Aside0.mk (Kd.C_below HJ.out hb); obtain ⟨p0, p1, p2, p3, p4, p5, p6, p7, p8, p9⟩ := cells10 HQ.out; obtain ⟨q0, q1, q2, q3, q4, q5, q6, q7, q8, q9⟩ := cells10 HZ.out; clear hb hb1)
            | (go_at_call 21; refine (law15_To_any _ _ _ _ _ _ _ _ _ _ _ _ _ _ _ _ _ _ _ _ [] w15 ?s1 ?s2).mono ?_; (case s1 => exact HNE.out.1); (case s2 => decide); rintro e w16 ⟨A16, c16, rfl, k16, hC, hb⟩; replace HP := Aside0.mk (blk_keep HP.out hb); replace HO := Aside0.mk (blk_keep HO.out hb); replace X := Aside0.mk (below_step X.out hb); replace HQ := Aside0.mk (blk_keep HQ.out hb); replace HZ := Aside0.mk (blk_keep HZ.out hb); replace HCX := Aside0.mk (Kd.C_below HCX.out hb); replace HCY := Aside0.mk (Kd.C_below HCY.out hb); replace HNE := Aside0.mk (nil_below HNE.out hb); replace HE := Aside0.mk (Kd.C_below HE.out hb); replace HNJ := Aside0.mk (nil_below HNJ.out hb); replace HJ := Aside0.mk (Kd.C_below HJ.out hb); obtain ⟨p0, p1, p2, p3, p4, p5, p6, p7, p8, p9⟩ := cells10 HQ.out; obtain ⟨q0, q1, q2, q3, q4, q5, q6, q7, q8, q9⟩ := cells10 HZ.out; have HC16 := Aside0.mk hC; clear hb hC k16)
            | (go_at_call 20; refine (same_any _ _ _ _ _ _ _ _ _ _ _ _ _ _ _ _ _ _ _ _ _ _ _ _ _ _ gs.2.1 w16 ?s1 ?s2 ?s3 ?s4 ?s5 ?s6 ?s7 ?s8 ?s9 ?s10 ?s11 ?s12 ?s13).mono ?_; (case s1 => exact HC16.out); (case s2 => exact HNE.out.2.1); (case s3 => exact HNE.out.2.2.1); (case s4 => exact HNE.out.2.2.2); (case s5 => exact HE.out); (case s6 => exact KE.out); (case s7 => exact HNJ.out.1); (case s8 => exact HNJ.out.2.1); (case s9 => exact HNJ.out.2.2.1); (case s10 => exact HNJ.out.2.2.2); (case s11 => exact HJ.out); (case s12 => exact KJ.out); (case s13 => have := HG.out; omega); rintro e w17 ⟨rfl, hb⟩; replace HP := Aside0.mk (blk_keep HP.out hb); replace HO := Aside0.mk (blk_keep HO.out hb); replace X := Aside0.mk (below_step X.out hb); replace HQ := Aside0.mk (blk_keep HQ.out hb); replace HZ := Aside0.mk (blk_keep HZ.out hb); replace HCX := Aside0.mk (Kd.C_below HCX.out hb); replace HCY := Aside0.mk (Kd.C_below HCY.out hb); replace HNE := Aside0.mk (nil_below HNE.out hb); replace HE := Aside0.mk (Kd.C_below HE.out hb); replace HNJ := Aside0.mk (nil_below HNJ.out hb); replace HJ := Aside0.mk (Kd.C_below HJ.out hb); obtain ⟨p0, p1, p2, p3, p4, p5, p6, p7, p8, p9⟩ := cells10 HQ.out; obtain ⟨q0, q1, q2, q3, q4, q5, q6, q7, q8, q9⟩ := cells10 HZ.out; clear hb))
        go_wp2
        go_ret
        exact ⟨rfl, X.out⟩

end Go.Proofs.Ytelmlkcoeihhjaa.Lw
