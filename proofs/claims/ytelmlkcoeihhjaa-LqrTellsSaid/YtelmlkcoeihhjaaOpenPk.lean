/- A document's packet that came in as an argument, opened. No conditions. -/
import Derived.Test.YtelmlkcoeihhjaaOpen
import Derived.Test.YtelmlkcoeihhjaaLp
namespace Go.Proofs.Ytelmlkcoeihhjaa.Open
open Go.ChangeShapes Go.WideShapes Go.ChangeAt Go.RowKit Go.Proofs.YtelmlkcoeihhjaaW.PrintWords Go.Proofs.Ytelmlkcoeihhjaa.Fl Go.Proofs.Ytelmlkcoeihhjaa.Lp
set_option linter.unusedVariables false

theorem cells1 : Try.prog.cellsOf 5 = 1 ∧ Try.prog.cellsOf 22 = 1 ∧ Try.prog.cellsOf 24 = 1 ∧ Try.prog.cellsOf 29 = 1 ∧ Try.prog.cellsOf 31 = 1 ∧ Try.prog.cellsOf 43 = 1 := ⟨by kernel_rfl, by kernel_rfl, by kernel_rfl, by kernel_rfl, by kernel_rfl, by kernel_rfl⟩
theorem cells45 : Try.prog.cellsOf 45 = 10 := by kernel_rfl
theorem cells79 : Try.prog.cellsOf 79 = 2 := by kernel_rfl

section
variable {H : Type} {enc : TypeId × Value → H} {W : World}

theorem opens_bytes : Opens enc Try.prog W 24 (Kd.slice 5 (Kd.int .u8)) (fun xs => (∀ a ∈ xs, (Lit.int .u8 a).wf = true) ∧ xs.length ≤ maxLen) :=
  opens_slice Try.underlying24 cells1.1 (opens_int Try.underlying5)
theorem opens_nums : Opens enc Try.prog W 31 (Kd.slice 29 (Kd.int .u32)) (fun xs => (∀ a ∈ xs, (Lit.int .u32 a).wf = true) ∧ xs.length ≤ maxLen) :=
  opens_slice Try.underlying31 cells1.2.2.2.1 (opens_int Try.underlying29)

theorem list_one {α : Type} {l : List α} {x : α} (n : Nat) (h : (l.drop n).take 1 = [x]) : l[n]? = some x := by
  have : ((l.drop n).take 1)[0]? = some x := by rw [h]; rfl
  rw [List.getElem?_take, if_pos (by decide), List.getElem?_drop] at this
  simpa using this

theorem opens_opt : Opens enc Try.prog W 79 k79 (fun _ => True) := by
  intro n cs y h
  obtain ⟨xs, m, rfl, _, hl, hn, hf⟩ := DataW.trod_struct Try.underlying79 h
  rw [cells79] at hl
  have f0 : DataW.trod enc Try.prog W 0 (fun _ => true) true m 5 ((cs.drop 0).take (Try.prog.cellsOf 5)) = xs[0]? := hf 0 _ rfl
  have f1 : DataW.trod enc Try.prog W 0 (fun _ => true) true m 24 ((cs.drop 1).take (Try.prog.cellsOf 24)) = xs[1]? := hf 1 _ rfl
  rw [cells1.1] at f0
  rw [cells1.2.2.1] at f1
  have hn2 : xs.length = 2 := hn
  rw [List.getElem?_eq_getElem (by omega)] at f0 f1
  obtain ⟨x, e0, _⟩ := DataW.trod_int Try.underlying5 f0
  obtain ⟨ys, ⟨A, c, e1, hc, hC⟩, _⟩ := opens_bytes _ _ _ f1
  have g0 := list_one 0 e0
  have g1 := list_one 1 e1
  have : cs = [.int .u8 x] ++ [.slice A ys.length c] := by
    match cs, hl with
    | [a, b], _ =>
      simp at g0 g1
      simp [g0, g1]
  exact ⟨⟨x, ys⟩, ⟨[.int .u8 x], [.slice A ys.length c], this, rfl, A, c, rfl, hc, hC⟩, trivial⟩
theorem opens_opts : Opens enc Try.prog W 43 (Kd.slice 79 k79) (fun xs => (∀ a ∈ xs, True) ∧ xs.length ≤ maxLen) :=
  opens_slice Try.underlying43 cells79 opens_opt

/-- A packet's parts, read. -/
structure Pk (W : World) (v : Value) (p c i s m : Int) (os : List S79) (one two data xs : List Int) : Prop where
  parts : ∃ A3 c3 A6 c6 A7 c7 A8 c8 A9 c9, v = pkt p c i A3 os.length c3 s m A6 one.length c6 A7 two.length c7 A8 data.length c8 A9 xs.length c9 ∧
    (k79.C W A3 os.length os ∧ os.length ≤ c3) ∧ ((Kd.int .u8).C W A6 one.length one ∧ one.length ≤ c6) ∧ ((Kd.int .u8).C W A7 two.length two ∧ two.length ≤ c7) ∧ ((Kd.int .u8).C W A8 data.length data ∧ data.length ≤ c8) ∧ ((Kd.int .u32).C W A9 xs.length xs ∧ xs.length ≤ c9)
  c8 : 0 ≤ c ∧ c ≤ 255
  i8 : 0 ≤ i ∧ i ≤ 255
  n32 : ∀ x ∈ xs, 0 ≤ x ∧ x < 4294967296
  len3 : os.length ≤ maxLen

theorem Pk.below {W W' : World} {v : Value} {p c i s m : Int} {os : List S79} {one two data xs : List Int} (h : Pk W v p c i s m os one two data xs) (hb : Below W.heap.size W W') : Pk W' v p c i s m os one two data xs := by
  obtain ⟨⟨A3, c3, A6, c6, A7, c7, A8, c8, A9, c9, rfl, h3, h6, h7, h8, h9⟩, hc, hi, hx, hl⟩ := h
  exact ⟨⟨A3, c3, A6, c6, A7, c7, A8, c8, A9, c9, rfl, ⟨Kd.C_below h3.1 hb, h3.2⟩, ⟨Kd.C_below h6.1 hb, h6.2⟩, ⟨Kd.C_below h7.1 hb, h7.2⟩, ⟨Kd.C_below h8.1 hb, h8.2⟩, ⟨Kd.C_below h9.1 hb, h9.2⟩⟩, hc, hi, hx, hl⟩

theorem open_pkt {base : Nat} {v : Value} {d : DataW H} {ps : List MemPlace} (hv : Value.okWide Try.prog W .any base 45 v) (h : DataW.Trod enc Try.prog W 0 (fun _ => true) true 45 v d ps) :
    ∃ p c i s m os one two data xs, Pk W v p c i s m os one two data xs := by
  obtain ⟨cs, rfl, hsz, _⟩ : ∃ cs, v = .agg cs ∧ cs.size = Try.prog.cellsOf 45 ∧ Row.okWide Try.prog W .any base 45 cs := by
    simpa [Value.okWide, Try.underlying45] using hv
  rw [cells45] at hsz
  obtain ⟨fuel, hf⟩ := h
  obtain ⟨xs, n, rfl, _, _, hn, hf⟩ := DataW.trod_struct Try.underlying45 hf
  have hn2 : xs.length = 10 := hn
  have e : (Value.cells (.agg cs)).toList = cs.toList := by simp [Value.cells]
  rw [e] at hf
  have f0 : DataW.trod enc Try.prog W 0 (fun _ => true) true n 22 ((cs.toList.drop 0).take (Try.prog.cellsOf 22)) = xs[0]? := hf 0 _ rfl
  rw [cells1.2.1] at f0
  have f1 : DataW.trod enc Try.prog W 0 (fun _ => true) true n 5 ((cs.toList.drop 1).take (Try.prog.cellsOf 5)) = xs[1]? := hf 1 _ rfl
  rw [cells1.1] at f1
  have f2 : DataW.trod enc Try.prog W 0 (fun _ => true) true n 5 ((cs.toList.drop 2).take (Try.prog.cellsOf 5)) = xs[2]? := hf 2 _ rfl
  rw [cells1.1] at f2
  have f3 : DataW.trod enc Try.prog W 0 (fun _ => true) true n 43 ((cs.toList.drop 3).take (Try.prog.cellsOf 43)) = xs[3]? := hf 3 _ rfl
  rw [cells1.2.2.2.2.2] at f3
  have f4 : DataW.trod enc Try.prog W 0 (fun _ => true) true n 22 ((cs.toList.drop 4).take (Try.prog.cellsOf 22)) = xs[4]? := hf 4 _ rfl
  rw [cells1.2.1] at f4
  have f5 : DataW.trod enc Try.prog W 0 (fun _ => true) true n 29 ((cs.toList.drop 5).take (Try.prog.cellsOf 29)) = xs[5]? := hf 5 _ rfl
  rw [cells1.2.2.2.1] at f5
  have f6 : DataW.trod enc Try.prog W 0 (fun _ => true) true n 24 ((cs.toList.drop 6).take (Try.prog.cellsOf 24)) = xs[6]? := hf 6 _ rfl
  rw [cells1.2.2.1] at f6
  have f7 : DataW.trod enc Try.prog W 0 (fun _ => true) true n 24 ((cs.toList.drop 7).take (Try.prog.cellsOf 24)) = xs[7]? := hf 7 _ rfl
  rw [cells1.2.2.1] at f7
  have f8 : DataW.trod enc Try.prog W 0 (fun _ => true) true n 24 ((cs.toList.drop 8).take (Try.prog.cellsOf 24)) = xs[8]? := hf 8 _ rfl
  rw [cells1.2.2.1] at f8
  have f9 : DataW.trod enc Try.prog W 0 (fun _ => true) true n 31 ((cs.toList.drop 9).take (Try.prog.cellsOf 31)) = xs[9]? := hf 9 _ rfl
  rw [cells1.2.2.2.2.1] at f9
  rw [List.getElem?_eq_getElem (by omega)] at f0 f1 f2 f3 f4 f5 f6 f7 f8 f9
  obtain ⟨p, e0, _, _⟩ := DataW.trod_int Try.underlying22 f0
  obtain ⟨c, e1, _, wc⟩ := DataW.trod_int Try.underlying5 f1
  obtain ⟨i, e2, _, wi⟩ := DataW.trod_int Try.underlying5 f2
  obtain ⟨os, ⟨A3, c3, e3, l3, g3⟩, _, m3⟩ := opens_opts _ _ _ f3
  obtain ⟨s, e4, _, _⟩ := DataW.trod_int Try.underlying22 f4
  obtain ⟨m, e5, _, _⟩ := DataW.trod_int Try.underlying29 f5
  obtain ⟨one, ⟨A6, c6, e6, l6, g6⟩, _⟩ := opens_bytes _ _ _ f6
  obtain ⟨two, ⟨A7, c7, e7, l7, g7⟩, _⟩ := opens_bytes _ _ _ f7
  obtain ⟨data, ⟨A8, c8, e8, l8, g8⟩, _⟩ := opens_bytes _ _ _ f8
  obtain ⟨nums, ⟨A9, c9, e9, l9, g9⟩, w9, _⟩ := opens_nums _ _ _ f9
  have key : cs.toList = [.int .u16 p, .int .u8 c, .int .u8 i, .slice A3 os.length c3, .int .u16 s, .int .u32 m, .slice A6 one.length c6, .slice A7 two.length c7, .slice A8 data.length c8, .slice A9 nums.length c9] := by
    apply List.ext_getElem?
    intro j
    have hl : cs.toList.length = 10 := by simpa using hsz
    match j with
    | 0 => exact list_one 0 e0
    | 1 => exact list_one 1 e1
    | 2 => exact list_one 2 e2
    | 3 => exact list_one 3 e3
    | 4 => exact list_one 4 e4
    | 5 => exact list_one 5 e5
    | 6 => exact list_one 6 e6
    | 7 => exact list_one 7 e7
    | 8 => exact list_one 8 e8
    | 9 => exact list_one 9 e9
    | j + 10 => rw [List.getElem?_eq_none (by omega), List.getElem?_eq_none (by simp)]
  have key2 : cs = #[.int .u16 p, .int .u8 c, .int .u8 i, .slice A3 os.length c3, .int .u16 s, .int .u32 m, .slice A6 one.length c6, .slice A7 two.length c7, .slice A8 data.length c8, .slice A9 nums.length c9] := by
    cases cs
    simp only at key
    rw [key]
  refine ⟨p, c, i, s, m, os, one, two, data, nums, ⟨A3, c3, A6, c6, A7, c7, A8, c8, A9, c9, by rw [key2], ⟨g3, l3⟩, ⟨g6, l6⟩, ⟨g7, l7⟩, ⟨g8, l8⟩, ⟨g9, l9⟩⟩, bounds_u8 wc, bounds_u8 wi, fun x hx => by have := bounds_u32 (w9 x hx); omega, m3⟩
end

end Go.Proofs.Ytelmlkcoeihhjaa.Open
