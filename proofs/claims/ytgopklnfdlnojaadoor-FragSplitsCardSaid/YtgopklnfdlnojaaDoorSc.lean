/- Pieces, copied one by one: the document's as the program's, and back. No conditions but that they are few. -/
import Derived.Test.YtgopklnfdlnojaaDoorGw
namespace Go.Proofs.YtgopklnfdlnojaaDoor.Sc
open Go.RowKit Go.Proofs.YtgopklnfdlnojaaDoor.Ga Go.Proofs.YtgopklnfdlnojaaDoor.My Go.Proofs.YtgopklnfdlnojaaDoorW.PrintWords Go.Proofs.YtgopklnfdlnojaaDoorW.PrintLast Go.Proofs.YtgopklnfdlnojaaDoorW.PrintMore
set_option linter.unusedVariables false
set_option linter.unusedSimpArgs false
def PRow (r : List Value) : Prop := ∃ b e num A m c, r = [.bool b, .bool e, .int .i64 num, .slice A m c]

set_option maxHeartbeats 1000000 in
set_option maxRecDepth 100000 in
theorem Of_raw (A : Option Addr) (c : Nat) (rows : List (List Value)) (w : World) (hC : (rawK 4).C w A rows.length rows) (hlen : rows.length ≤ 100000) (hsh : ∀ r ∈ rows, PRow r) :
    Calls Tryd.prog 23 #[.slice A rows.length c] w fun e w' => ∃ v, e = .returned v ∧ (rawK 4).R 29 w' w.heap.size (fun _ => True) v rows ∧ Below w.heap.size w w' := by
  have hu := Tryd.underlying38
  have HC := Aside0.mk hC
  have HS := Aside0.mk hsh
  clear hC hsh
  obtain ⟨n, hn⟩ : ∃ n, rows.length = n := ⟨_, rfl⟩
  have HN := Aside0.mk hn
  rw [hn] at hlen
  rw [hn]
  clear hn
  go_enter Tryd.func23, Tryd.ntmps23
  go_wp2
  go_loopw [3, 8] (fun v3 v8 wr => ∃ k : Nat, k ≤ n ∧ v8 = .int .i64 k ∧ Aside0 ((rawK 4).R 29 wr w.heap.size (fun _ => True) v3 (rows.take k)) ∧ Aside0 (Below w.heap.size w wr)) (fun _ v8 _ => n - (intOf v8).toNat)
  case atStart => exact ⟨0, Nat.zero_le _, rfl, ⟨Kd.R_nil _ _ _ _ _⟩, ⟨Below.refl _ _⟩⟩
  case round =>
    obtain ⟨k, hk, rfl, HR, HB⟩ := hrel
    by_cases hlt : k < n
    · obtain ⟨ad, rfl, r, hr, hrl, hr1, hcell⟩ := raw_get (Kd.C_below HC.out HB.out) k (by have := HN.out; omega)
      obtain ⟨b, e, num, A1, m1, c1, rfl⟩ := HS.out r (List.mem_of_getElem? hr)
      have h0 := hcell 0 _ rfl
      rw [Nat.add_zero] at h0
      have h1 := hcell 1 _ rfl
      rw [add_field _ _ 1 (by omega)] at h1
      have h2 := hcell 2 _ rfl
      rw [add_field _ _ 2 (by omega)] at h2
      have h3 := hcell 3 _ rfl
      rw [add_field _ _ 3 (by omega)] at h3
      have hM := Aside0.mk hr1
      clear hcell hr1
      have hR := Aside0.mk hr
      clear hr hrl
      have hll : (rows.take k).length = k := by rw [List.length_take]; have := HN.out; omega
      have HL := Aside0.mk hll
      clear hll
      go_wp2_with (at_builtin; (refine Kd.R_append (rawK 4) (w0 := w) w.heap.size rfl (.tmp 12) (.tmp 14) 41 29 (.agg #[(.bool false), (.bool false), (.int .i64 0), (.slice none 0 0)]) 40 rfl Tryd.underlying41 info29 rfl (by decide) (by omega) u3 (rows.take k) [.bool b, .bool e, .int .i64 num, .slice A1 m1 c1] [.bool b, .bool e, .int .i64 num, .slice A1 m1 c1] (fun _ => True) (fun _ => False) rfl ?aX ?aP (fun _ hk => hk.elim) ?aF ?aO ?aB ?aS ?aL ?_); (case aX => simp [Act.eval]); (case aP => exact raw_M _ _ _ _ rfl hM.out); (case aF => exact fun _ _ => trivial); (case aO => exact Kd.R_alloc HR.out _); (case aB => exact below_alloc HB.out _); (case aS => exact below_size (below_alloc HB.out _)); (case aL => rw [HL.out]; omega); intro v1 w9 ho hb hg hat; have HR2 := Aside0.mk ho; have HB2 := Aside0.mk hb; clear ho hb hg hat)
      go_roundw
      case measure => simp [intOf]; omega
      case rel => exact ⟨k + 1, by omega, by go_num, ⟨by rw [List.take_add_one, hR.out]; exact HR2.out⟩, HB2⟩
    · go_wp2
      go_ret
      have hk : k = n := by omega
      refine ⟨_, rfl, ?_, HB.out⟩
      have := HR.out
      rwa [List.take_of_length_le (by have := HN.out; omega)] at this

set_option maxHeartbeats 1000000 in
set_option maxRecDepth 100000 in
theorem To_raw (A : Option Addr) (c : Nat) (rows : List (List Value)) (w : World) (hC : (rawK 4).C w A rows.length rows) (hlen : rows.length ≤ 100000) (hsh : ∀ r ∈ rows, PRow r) :
    Calls Tryd.prog 25 #[.slice A rows.length c] w fun e w' => ∃ v, e = .returned v ∧ (rawK 4).R 24 w' w.heap.size (fun _ => True) v rows ∧ Below w.heap.size w w' := by
  have hu := Tryd.underlying41
  have HC := Aside0.mk hC
  have HS := Aside0.mk hsh
  clear hC hsh
  obtain ⟨n, hn⟩ : ∃ n, rows.length = n := ⟨_, rfl⟩
  have HN := Aside0.mk hn
  rw [hn] at hlen
  rw [hn]
  clear hn
  go_enter Tryd.func25, Tryd.ntmps25
  go_wp2
  go_loopw [3, 8] (fun v3 v8 wr => ∃ k : Nat, k ≤ n ∧ v8 = .int .i64 k ∧ Aside0 ((rawK 4).R 24 wr w.heap.size (fun _ => True) v3 (rows.take k)) ∧ Aside0 (Below w.heap.size w wr)) (fun _ v8 _ => n - (intOf v8).toNat)
  case atStart => exact ⟨0, Nat.zero_le _, rfl, ⟨Kd.R_nil _ _ _ _ _⟩, ⟨Below.refl _ _⟩⟩
  case round =>
    obtain ⟨k, hk, rfl, HR, HB⟩ := hrel
    by_cases hlt : k < n
    · obtain ⟨ad, rfl, r, hr, hrl, hr1, hcell⟩ := raw_get (Kd.C_below HC.out HB.out) k (by have := HN.out; omega)
      obtain ⟨b, e, num, A1, m1, c1, rfl⟩ := HS.out r (List.mem_of_getElem? hr)
      have h0 := hcell 0 _ rfl
      rw [Nat.add_zero] at h0
      have h1 := hcell 1 _ rfl
      rw [add_field _ _ 1 (by omega)] at h1
      have h2 := hcell 2 _ rfl
      rw [add_field _ _ 2 (by omega)] at h2
      have h3 := hcell 3 _ rfl
      rw [add_field _ _ 3 (by omega)] at h3
      have hM := Aside0.mk hr1
      clear hcell hr1
      have hR := Aside0.mk hr
      clear hr hrl
      have hll : (rows.take k).length = k := by rw [List.length_take]; have := HN.out; omega
      have HL := Aside0.mk hll
      clear hll
      go_wp2_with (at_builtin; (refine Kd.R_append (rawK 4) (w0 := w) w.heap.size rfl (.tmp 12) (.tmp 14) 38 24 (.agg #[(.bool false), (.bool false), (.int .i64 0), (.slice none 0 0)]) 40 rfl Tryd.underlying38 info24 rfl (by decide) (by omega) u3 (rows.take k) [.bool b, .bool e, .int .i64 num, .slice A1 m1 c1] [.bool b, .bool e, .int .i64 num, .slice A1 m1 c1] (fun _ => True) (fun _ => False) rfl ?aX ?aP (fun _ hk => hk.elim) ?aF ?aO ?aB ?aS ?aL ?_); (case aX => simp [Act.eval]); (case aP => exact raw_M _ _ _ _ rfl hM.out); (case aF => exact fun _ _ => trivial); (case aO => exact Kd.R_alloc HR.out _); (case aB => exact below_alloc HB.out _); (case aS => exact below_size (below_alloc HB.out _)); (case aL => rw [HL.out]; omega); intro v1 w9 ho hb hg hat; have HR2 := Aside0.mk ho; have HB2 := Aside0.mk hb; clear ho hb hg hat)
      go_roundw
      case measure => simp [intOf]; omega
      case rel => exact ⟨k + 1, by omega, by go_num, ⟨by rw [List.take_add_one, hR.out]; exact HR2.out⟩, HB2⟩
    · go_wp2
      go_ret
      have hk : k = n := by omega
      refine ⟨_, rfl, ?_, HB.out⟩
      have := HR.out
      rwa [List.take_of_length_le (by have := HN.out; omega)] at this

theorem pRow24 {w : World} {x : S24} {r : List Value} (h : k24.K w x r) : PRow r := by
  obtain ⟨A1, c1, rfl, _, _⟩ := k24_open h
  exact ⟨_, _, _, _, _, _, rfl⟩
theorem pRow29 {w : World} {x : S29} {r : List Value} (h : k29.K w x r) : PRow r := by
  obtain ⟨A1, c1, rfl, _, _⟩ := k29_open h
  exact ⟨_, _, _, _, _, _, rfl⟩
theorem each_rows {α : Type} {d : Kd α} {w : World} {xs : List α} {rows : List (List Value)} (h : Each d w xs rows) (hd : ∀ x r, d.K w x r → PRow r) : ∀ r ∈ rows, PRow r := by
  intro r hr
  obtain ⟨j, hj, rfl⟩ := List.mem_iff_getElem.1 hr
  have hj2 : j < xs.length := by have := h.1; omega
  exact hd _ _ (h.2 j _ _ (List.getElem?_eq_getElem hj2) (List.getElem?_eq_getElem hj))

def of24 (x : S24) : S29 := ⟨x.f0, x.f1, x.f2, x.f3⟩
def of29 (x : S29) : S24 := ⟨x.f0, x.f1, x.f2, x.f3⟩
theorem of_of (x : S29) : of24 (of29 x) = x := rfl
theorem of_of' (x : S24) : of29 (of24 x) = x := rfl

theorem each24 {w : World} {xs : List S24} {rows : List (List Value)} (h : Each k24 w xs rows) : Each k29 w (xs.map of24) rows :=
  ⟨by simpa using h.1, fun j x r hx hr => by
    rw [List.getElem?_map] at hx
    obtain ⟨y, hy, rfl⟩ := Option.map_eq_some_iff.1 hx
    exact h.2 j y r hy hr⟩
theorem each29 {w : World} {xs : List S29} {rows : List (List Value)} (h : Each k29 w xs rows) : Each k24 w (xs.map of29) rows :=
  ⟨by simpa using h.1, fun j x r hx hr => by
    rw [List.getElem?_map] at hx
    obtain ⟨y, hy, rfl⟩ := Option.map_eq_some_iff.1 hx
    exact h.2 j y r hy hr⟩

theorem Of_any (A : Option Addr) (n c : Nat) (xs : List S24) (w : World) (hC : k24.C w A n xs) (hlen : n ≤ 100000) :
    Calls Tryd.prog 23 #[.slice A n c] w fun e w' => ∃ A' c', e = .returned (.slice A' n c') ∧ n ≤ c' ∧ k29.C w' A' n (xs.map of24) ∧ Below w.heap.size w w' := by
  obtain ⟨rows, hr, he⟩ := raw_of hC
  have hrl : rows.length = n := hr.1
  obtain rfl := hrl
  refine (Of_raw A c rows w hr hlen (each_rows he fun _ _ => pRow24)).mono ?_
  rintro e w' ⟨v, rfl, hR, hb⟩
  obtain ⟨A', c', rfl, hc', hC'⟩ := Kd.R_reads hR
  exact ⟨A', c', rfl, hc', of_raw (d := k29) hC' (each24 (he.below hb)), hb⟩
theorem To_any (A : Option Addr) (n c : Nat) (xs : List S29) (w : World) (hC : k29.C w A n xs) (hlen : n ≤ 100000) :
    Calls Tryd.prog 25 #[.slice A n c] w fun e w' => ∃ A' c', e = .returned (.slice A' n c') ∧ n ≤ c' ∧ k24.C w' A' n (xs.map of29) ∧ Below w.heap.size w w' := by
  obtain ⟨rows, hr, he⟩ := raw_of hC
  have hrl : rows.length = n := hr.1
  obtain rfl := hrl
  refine (To_raw A c rows w hr hlen (each_rows he fun _ _ => pRow29)).mono ?_
  rintro e w' ⟨v, rfl, hR, hb⟩
  obtain ⟨A', c', rfl, hc', hC'⟩ := Kd.R_reads hR
  exact ⟨A', c', rfl, hc', of_raw (d := k24) hC' (each29 (he.below hb)), hb⟩

end Go.Proofs.YtgopklnfdlnojaaDoor.Sc
