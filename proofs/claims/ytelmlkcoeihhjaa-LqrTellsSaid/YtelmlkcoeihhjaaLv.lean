/- How many packets were lost between two reports: what lqr.Lost answers, for any two packets. No conditions but that the slices read as lists. -/
import Derived.Test.YtelmlkcoeihhjaaFl0
namespace Go.Proofs.Ytelmlkcoeihhjaa.Lv
open Go.RowKit Go.Proofs.Ytelmlkcoeihhjaa.Fl Go.Proofs.YtelmlkcoeihhjaaW.PrintWords Go.Proofs.YtelmlkcoeihhjaaW.PrintLast Go.Proofs.YtelmlkcoeihhjaaW.PrintMore
set_option linter.unusedVariables false
set_option linter.unusedSimpArgs false

/-- A packet as the walk has it. -/
abbrev pk (p c i s m : Int) (o a b d : Value) (A : Option Addr) (n cap : Nat) : Value := .agg #[.int .u16 p, .int .u8 c, .int .u8 i, o, .int .u16 s, .int .u32 m, a, b, d, .slice A n cap]

set_option maxHeartbeats 1000000 in
set_option maxRecDepth 100000 in
theorem more_any (i : Int) (gB gA : Nat) (A B : Option Addr) (cA cB : Nat) (xs ys : List Int) (w : World)
    (hi0 : 0 ≤ i) (hi : i < 12)
    (hB : w.cell? ⟨gB, 9, none⟩ = some (.slice B 12 cB)) (hA : w.cell? ⟨gA, 9, none⟩ = some (.slice A 12 cA))
    (hxs : Kd.C (Kd.int .u32) w A 12 xs) (hys : Kd.C (Kd.int .u32) w B 12 ys) :
    Calls Try.prog 31 #[.int .i64 i, .pointer (some ⟨gB, 0, none⟩), .pointer (some ⟨gA, 0, none⟩)] w fun e w' => e = .returned (.int .u32 (IntKind.u32.wrap (rd ys i - rd xs i))) ∧ Drawn0 w w' := by
  obtain ⟨adA, rfl, hcA⟩ := Kd.at_int hxs i hi0 (by omega)
  obtain ⟨adB, rfl, hcB⟩ := Kd.at_int hys i hi0 (by omega)
  go_enter Try.func31, Try.ntmps31
  go_wp2
  go_quiet (fail)
  go_wp2
  go_ret
  exact ⟨rfl, by repeat (first | exact Drawn0.refl _ | apply Drawn0.step)⟩

def lost (xs ys : List Int) : Int := IntKind.u32.wrap (IntKind.u32.wrap (rd ys 2 - rd xs 2) - IntKind.u32.wrap (rd ys 5 - rd xs 5))

set_option maxHeartbeats 1000000 in
set_option maxRecDepth 100000 in
theorem lost_yes (p c i s m p' c' i' s' m' : Int) (Ao Aa Ab Ad Bo Ba Bb Bd : Option Addr) (no na nb nd no' na' nb' nd' co ca cb cd co' ca' cb' cd' : Nat) (A B : Option Addr) (cA cB : Nat) (xs ys : List Int) (w : World)
    (hxs : Kd.C (Kd.int .u32) w A 12 xs) (hys : Kd.C (Kd.int .u32) w B 12 ys) :
    Calls Try.prog 14 #[pk p c i s m (.slice Ao no co) (.slice Aa na ca) (.slice Ab nb cb) (.slice Ad nd cd) A 12 cA, pk p' c' i' s' m' (.slice Bo no' co') (.slice Ba na' ca') (.slice Bb nb' cb') (.slice Bd nd' cd') B 12 cB] w
      fun e w' => e = .returned (.tuple #[.int .u32 (lost xs ys), .bool true]) ∧ Below w.heap.size w w' := by
  have HX := Aside0.mk hxs
  have HY := Aside0.mk hys
  clear hxs hys
  have hmf : ∀ (fn : Fn) (first cap : Array Value) (w : World), (Instr.makeFunc fn first cap).run Try.prog w = .ok (.func fn first cap) w := fun _ _ _ _ => rfl
  go_enter Try.func14, Try.ntmps14
  go_wp2_with (fail)
  refine (more_any 2 (w.heap.size + 1) w.heap.size A B cA cB xs ys _ (by omega) (by omega) ?_ ?_ ?_ ?_).mono ?_
  · go_simp
  · go_simp
  · exact Kd.C_alloc (Kd.C_alloc HX.out _) _
  · exact Kd.C_alloc (Kd.C_alloc HY.out _) _
  rintro e w' ⟨rfl, ⟨nd, rfl⟩⟩
  go_wp2_with (fail)
  refine (more_any 5 (w.heap.size + 1) w.heap.size A B cA cB xs ys _ (by omega) (by omega) ?_ ?_ ?_ ?_).mono ?_
  · go_simp
  · go_simp
  · exact Kd.C_drewN (Kd.C_alloc (Kd.C_alloc HX.out _) _) _
  · exact Kd.C_drewN (Kd.C_alloc (Kd.C_alloc HY.out _) _) _
  rintro e w' ⟨rfl, ⟨nd2, rfl⟩⟩
  go_wp2
  go_ret2
  exact ⟨rfl, by repeat (first | exact Below.refl _ _ | apply below_alloc | apply pw_below_drewN | apply below_drew1)⟩

set_option maxHeartbeats 1000000 in
set_option maxRecDepth 100000 in
theorem lost_no (p c i s m p' c' i' s' m' : Int) (Ao Aa Ab Ad Bo Ba Bb Bd : Option Addr) (no na nb nd no' na' nb' nd' co ca cb cd co' ca' cb' cd' : Nat) (A B : Option Addr) (nA nB cA cB : Nat) (w : World)
    (h : nA ≠ 12 ∨ nB ≠ 12) (hn : nA ≤ maxLen) (hn' : nB ≤ maxLen) :
    Calls Try.prog 14 #[pk p c i s m (.slice Ao no co) (.slice Aa na ca) (.slice Ab nb cb) (.slice Ad nd cd) A nA cA, pk p' c' i' s' m' (.slice Bo no' co') (.slice Ba na' ca') (.slice Bb nb' cb') (.slice Bd nd' cd') B nB cB] w
      fun e w' => e = .returned (.tuple #[.int .u32 0, .bool false]) ∧ Below w.heap.size w w' := by
  by_cases hA : nA = 12
  · have g1 : ((nA : Int) != 12) = false := by subst hA; rfl
    have g2 : ((nB : Int) != 12) = true := by rw [bne_iff_ne]; omega
    clear h hA
    go_enter Try.func14, Try.ntmps14
    go_wp2
    go_ret2
    exact ⟨rfl, below_alloc (below_alloc (Below.refl _ _) _) _⟩
  · have g1 : ((nA : Int) != 12) = true := by rw [bne_iff_ne]; omega
    clear h hA
    go_enter Try.func14, Try.ntmps14
    go_wp2
    go_ret2
    exact ⟨rfl, below_alloc (below_alloc (Below.refl _ _) _) _⟩

end Go.Proofs.Ytelmlkcoeihhjaa.Lv
