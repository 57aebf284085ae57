/- Options, copied one by one: the document's as the program's, and back. No conditions but that they read as lists. -/
import Derived.Test.YtelmlkcoeihhjaaFl0
import Derived.Test.YtelmlkcoeihhjaaMy
namespace Go.Proofs.Ytelmlkcoeihhjaa.Lo
open Go.RowKit Go.Proofs.Ytelmlkcoeihhjaa.Fl Go.Proofs.Ytelmlkcoeihhjaa.My Go.Proofs.YtelmlkcoeihhjaaW.PrintWords Go.Proofs.YtelmlkcoeihhjaaW.PrintLast Go.Proofs.YtelmlkcoeihhjaaW.PrintMore
set_option linter.unusedVariables false
set_option linter.unusedSimpArgs false

def OptRow (r : List Value) : Prop := ∃ x A m c, r = [.int .u8 x, .slice A m c]

set_option maxHeartbeats 1000000 in
set_option maxRecDepth 100000 in
theorem law12_Of_raw (A : Option Addr) (c : Nat) (rows : List (List Value)) (w : World) (hC : (rawK 2).C w A rows.length rows) (hlen : rows.length * 32 ≤ 140737488351232) (hsh : ∀ r ∈ rows, OptRow r) :
    Calls Try.prog 33 #[.slice A rows.length c] w fun e w' => ∃ v, e = .returned v ∧ (rawK 2).R 80 w' w.heap.size (fun _ => True) v rows ∧ Below w.heap.size w w' := by
  have hu79 := Try.underlying79
  have HC := Aside0.mk hC
  have HS := Aside0.mk hsh
  clear hC hsh
  obtain ⟨n, hn⟩ : ∃ n, rows.length = n := ⟨_, rfl⟩
  have HN := Aside0.mk hn
  rw [hn] at hlen
  rw [hn]
  clear hn
  go_enter Try.func33, Try.ntmps33
  go_wp2
  go_loopw [3, 8] (fun v3 v8 wr => ∃ k : Nat, k ≤ n ∧ v8 = .int .i64 k ∧ Aside0 ((rawK 2).R 80 wr w.heap.size (fun _ => True) v3 (rows.take k)) ∧ Aside0 (Below w.heap.size w wr)) (fun _ v8 _ => n - (intOf v8).toNat)
  case atStart => exact ⟨0, Nat.zero_le _, rfl, ⟨Kd.R_nil _ _ _ _ _⟩, ⟨Below.refl _ _⟩⟩
  case round =>
    obtain ⟨k, hk, rfl, HR, HB⟩ := hrel
    by_cases hlt : k < n
    · obtain ⟨ad, rfl, r, hr, hrl, hr1, hcell⟩ := raw_get (Kd.C_below HC.out HB.out) k (by have := HN.out; omega)
      obtain ⟨x, A1, m1, c1, rfl⟩ := HS.out r (List.mem_of_getElem? hr)
      have h0 := hcell 0 _ rfl
      rw [Nat.add_zero] at h0
      have h1 := hcell 1 _ rfl
      rw [add_field _ _ 1 (by omega)] at h1
      have hM := Aside0.mk hr1
      clear hcell hr1
      have hR := Aside0.mk hr
      clear hr hrl
      have hll : (rows.take k).length = k := by rw [List.length_take]; have := HN.out; omega
      have HL := Aside0.mk hll
      clear hll
      go_wp2_with (at_builtin; (refine Kd.R_append (rawK 2) (w0 := w) w.heap.size rfl (.tmp 12) (.tmp 14) 32 80 (.agg #[(.int .u8 0), (.slice none 0 0)]) 32 rfl Try.underlying32 info80 rfl (by decide) (by omega) u3 (rows.take k) [.int .u8 x, .slice A1 m1 c1] [.int .u8 x, .slice A1 m1 c1] (fun _ => True) (fun _ => False) rfl ?aX ?aP (fun _ hk => hk.elim) ?aF ?aO ?aB ?aS ?aL ?_); (case aX => simp [Act.eval]); (case aP => exact raw_M _ _ _ _ rfl hM.out); (case aF => exact fun _ _ => trivial); (case aO => exact Kd.R_alloc HR.out _); (case aB => exact below_alloc HB.out _); (case aS => exact below_size (below_alloc HB.out _)); (case aL => rw [HL.out]; omega); intro v1 w9 ho hb hg hat; have HR2 := Aside0.mk ho; have HB2 := Aside0.mk hb; clear ho hb hg hat)
      go_roundw
      case measure => simp [intOf]; omega
      case rel => exact ⟨k + 1, by omega, by go_num, ⟨by rw [List.take_add_one, hR.out]; exact HR2.out⟩, HB2⟩
    · go_wp2
      go_ret
      have hk : k = n := by omega
      refine ⟨_, rfl, ?_, HB.out⟩
      have := HR.out
      rwa [List.take_of_length_le (by have := HN.out; omega)] at this

set_option maxHeartbeats 1000000 in
set_option maxRecDepth 100000 in
theorem law12_To_raw (A : Option Addr) (c : Nat) (rows : List (List Value)) (w : World) (hC : (rawK 2).C w A rows.length rows) (hlen : rows.length * 32 ≤ 140737488351232) (hsh : ∀ r ∈ rows, OptRow r) :
    Calls Try.prog 35 #[.slice A rows.length c] w fun e w' => ∃ v, e = .returned v ∧ (rawK 2).R 79 w' w.heap.size (fun _ => True) v rows ∧ Below w.heap.size w w' := by
  have hu80 := Try.underlying80
  have HC := Aside0.mk hC
  have HS := Aside0.mk hsh
  clear hC hsh
  obtain ⟨n, hn⟩ : ∃ n, rows.length = n := ⟨_, rfl⟩
  have HN := Aside0.mk hn
  rw [hn] at hlen
  rw [hn]
  clear hn
  go_enter Try.func35, Try.ntmps35
  go_wp2
  go_loopw [3, 8] (fun v3 v8 wr => ∃ k : Nat, k ≤ n ∧ v8 = .int .i64 k ∧ Aside0 ((rawK 2).R 79 wr w.heap.size (fun _ => True) v3 (rows.take k)) ∧ Aside0 (Below w.heap.size w wr)) (fun _ v8 _ => n - (intOf v8).toNat)
  case atStart => exact ⟨0, Nat.zero_le _, rfl, ⟨Kd.R_nil _ _ _ _ _⟩, ⟨Below.refl _ _⟩⟩
  case round =>
    obtain ⟨k, hk, rfl, HR, HB⟩ := hrel
    by_cases hlt : k < n
    · obtain ⟨ad, rfl, r, hr, hrl, hr1, hcell⟩ := raw_get (Kd.C_below HC.out HB.out) k (by have := HN.out; omega)
      obtain ⟨x, A1, m1, c1, rfl⟩ := HS.out r (List.mem_of_getElem? hr)
      have h0 := hcell 0 _ rfl
      rw [Nat.add_zero] at h0
      have h1 := hcell 1 _ rfl
      rw [add_field _ _ 1 (by omega)] at h1
      have hM := Aside0.mk hr1
      clear hcell hr1
      have hR := Aside0.mk hr
      clear hr hrl
      have hll : (rows.take k).length = k := by rw [List.length_take]; have := HN.out; omega
      have HL := Aside0.mk hll
      clear hll
      go_wp2_with (at_builtin; (refine Kd.R_append (rawK 2) (w0 := w) w.heap.size rfl (.tmp 12) (.tmp 14) 43 79 (.agg #[(.int .u8 0), (.slice none 0 0)]) 32 rfl Try.underlying43 info79 rfl (by decide) (by omega) u3 (rows.take k) [.int .u8 x, .slice A1 m1 c1] [.int .u8 x, .slice A1 m1 c1] (fun _ => True) (fun _ => False) rfl ?aX ?aP (fun _ hk => hk.elim) ?aF ?aO ?aB ?aS ?aL ?_); (case aX => simp [Act.eval]); (case aP => exact raw_M _ _ _ _ rfl hM.out); (case aF => exact fun _ _ => trivial); (case aO => exact Kd.R_alloc HR.out _); (case aB => exact below_alloc HB.out _); (case aS => exact below_size (below_alloc HB.out _)); (case aL => rw [HL.out]; omega); intro v1 w9 ho hb hg hat; have HR2 := Aside0.mk ho; have HB2 := Aside0.mk hb; clear ho hb hg hat)
      go_roundw
      case measure => simp [intOf]; omega
      case rel => exact ⟨k + 1, by omega, by go_num, ⟨by rw [List.take_add_one, hR.out]; exact HR2.out⟩, HB2⟩
    · go_wp2
      go_ret
      have hk : k = n := by omega
      refine ⟨_, rfl, ?_, HB.out⟩
      have := HR.out
      rwa [List.take_of_length_le (by have := HN.out; omega)] at this

theorem optRow79 {w : World} {x : S79} {r : List Value} (h : k79.K w x r) : OptRow r := by
  obtain ⟨A1, c1, rfl, _, _⟩ := k79_open h
  exact ⟨_, _, _, _, rfl⟩
theorem optRow80 {w : World} {x : S80} {r : List Value} (h : k80.K w x r) : OptRow r := by
  obtain ⟨A1, c1, rfl, _, _⟩ := k80_open h
  exact ⟨_, _, _, _, rfl⟩
theorem each_rows {α : Type} {d : Kd α} {w : World} {xs : List α} {rows : List (List Value)} (h : Each d w xs rows) (hd : ∀ x r, d.K w x r → OptRow r) : ∀ r ∈ rows, OptRow r := by
  intro r hr
  obtain ⟨j, hj, rfl⟩ := List.mem_iff_getElem.1 hr
  have hj2 : j < xs.length := by have := h.1; omega
  exact hd _ _ (h.2 j _ _ (List.getElem?_eq_getElem hj2) (List.getElem?_eq_getElem hj))

def of79 (x : S79) : S80 := ⟨x.f0, x.f1⟩
def of80 (x : S80) : S79 := ⟨x.f0, x.f1⟩

theorem each79 {w : World} {xs : List S79} {rows : List (List Value)} (h : Each k79 w xs rows) : Each k80 w (xs.map of79) rows :=
  ⟨by simpa using h.1, fun j x r hx hr => by
    rw [List.getElem?_map] at hx
    obtain ⟨y, hy, rfl⟩ := Option.map_eq_some_iff.1 hx
    exact h.2 j y r hy hr⟩
theorem each80 {w : World} {xs : List S80} {rows : List (List Value)} (h : Each k80 w xs rows) : Each k79 w (xs.map of80) rows :=
  ⟨by simpa using h.1, fun j x r hx hr => by
    rw [List.getElem?_map] at hx
    obtain ⟨y, hy, rfl⟩ := Option.map_eq_some_iff.1 hx
    exact h.2 j y r hy hr⟩

theorem law12_Of_len (A : Option Addr) (n c : Nat) (rows : List (List Value)) (w : World) (hC : (rawK 2).C w A n rows) (hn : rows.length = n) (hlen : n * 32 ≤ 140737488351232) (hsh : ∀ r ∈ rows, OptRow r) :
    Calls Try.prog 33 #[.slice A n c] w fun e w' => ∃ A' c', e = .returned (.slice A' n c') ∧ (rawK 2).R 80 w' w.heap.size (fun _ => True) (.slice A' n c') rows ∧ Below w.heap.size w w' := by
  subst hn
  refine (law12_Of_raw A c rows w hC hlen hsh).mono ?_
  rintro e w' ⟨v, rfl, hR, hb⟩
  obtain ⟨A', c', rfl⟩ := Kd.R_slice hR
  exact ⟨A', c', rfl, hR, hb⟩
theorem law12_To_len (A : Option Addr) (n c : Nat) (rows : List (List Value)) (w : World) (hC : (rawK 2).C w A n rows) (hn : rows.length = n) (hlen : n * 32 ≤ 140737488351232) (hsh : ∀ r ∈ rows, OptRow r) :
    Calls Try.prog 35 #[.slice A n c] w fun e w' => ∃ A' c', e = .returned (.slice A' n c') ∧ (rawK 2).R 79 w' w.heap.size (fun _ => True) (.slice A' n c') rows ∧ Below w.heap.size w w' := by
  subst hn
  refine (law12_To_raw A c rows w hC hlen hsh).mono ?_
  rintro e w' ⟨v, rfl, hR, hb⟩
  obtain ⟨A', c', rfl⟩ := Kd.R_slice hR
  exact ⟨A', c', rfl, hR, hb⟩

/-- A document's options as the program's: the same, in new memory. -/
theorem law12_Of_any (A : Option Addr) (n c : Nat) (xs : List S79) (w : World) (hC : k79.C w A n xs) (hlen : n * 32 ≤ 140737488351232) :
    Calls Try.prog 33 #[.slice A n c] w fun e w' => ∃ A' c', e = .returned (.slice A' n c') ∧ n ≤ c' ∧ k80.C w' A' n (xs.map of79) ∧ Below w.heap.size w w' := by
  obtain ⟨rows, hr, he⟩ := raw_of hC
  have hrl : rows.length = n := hr.1
  obtain rfl := hrl
  refine (law12_Of_raw A c rows w hr hlen (each_rows he fun _ _ => optRow79)).mono ?_
  rintro e w' ⟨v, rfl, hR, hb⟩
  obtain ⟨A', c', rfl, hc', hC'⟩ := Kd.R_reads hR
  exact ⟨A', c', rfl, hc', of_raw (d := k80) hC' (each79 (he.below hb)), hb⟩
/-- The program's options as the document's: the same, in new memory. -/
theorem law12_To_any (A : Option Addr) (n c : Nat) (xs : List S80) (w : World) (hC : k80.C w A n xs) (hlen : n * 32 ≤ 140737488351232) :
    Calls Try.prog 35 #[.slice A n c] w fun e w' => ∃ A' c', e = .returned (.slice A' n c') ∧ n ≤ c' ∧ k79.C w' A' n (xs.map of80) ∧ Below w.heap.size w w' := by
  obtain ⟨rows, hr, he⟩ := raw_of hC
  have hrl : rows.length = n := hr.1
  obtain rfl := hrl
  refine (law12_To_raw A c rows w hr hlen (each_rows he fun _ _ => optRow80)).mono ?_
  rintro e w' ⟨v, rfl, hR, hb⟩
  obtain ⟨A', c', rfl, hc', hC'⟩ := Kd.R_reads hR
  exact ⟨A', c', rfl, hc', of_raw (d := k79) hC' (each80 (he.below hb)), hb⟩

end Go.Proofs.Ytelmlkcoeihhjaa.Lo
