/- The law of splits (FragSplits), walked. -/
import Derived.Test.YtgopklnfdlnojaaDoorGs
import Derived.Test.YtgopklnfdlnojaaDoorGw
import Derived.Test.YtgopklnfdlnojaaDoorSj
namespace Go.Proofs.YtgopklnfdlnojaaDoor.Sk
open Go.RowKit Go.Proofs.YtgopklnfdlnojaaDoor.Ga Go.Proofs.YtgopklnfdlnojaaDoor.My Go.Proofs.YtgopklnfdlnojaaDoor.Gb Go.Proofs.YtgopklnfdlnojaaDoor.Gp Go.Proofs.YtgopklnfdlnojaaDoor.Gs Go.Proofs.YtgopklnfdlnojaaDoor.Gw Go.Proofs.YtgopklnfdlnojaaDoor.Sa Go.Proofs.YtgopklnfdlnojaaDoor.Sb Go.Proofs.YtgopklnfdlnojaaDoor.Sc Go.Proofs.YtgopklnfdlnojaaDoor.Sd Go.Proofs.YtgopklnfdlnojaaDoor.Se Go.Proofs.YtgopklnfdlnojaaDoor.Si Go.Proofs.YtgopklnfdlnojaaDoor.Sj Go.Proofs.YtgopklnfdlnojaaDoorW.PrintWords Go.Proofs.YtgopklnfdlnojaaDoorW.PrintLast Go.Proofs.YtgopklnfdlnojaaDoorW.PrintMore
set_option linter.unusedVariables false
set_option linter.unusedSimpArgs false

theorem split_len (short : Bool) (first most : Int) (xs : List Int) (hn : xs.length ≤ 1000) : (splitP short first most xs).1.length ≤ 1000 := by
  unfold splitP
  split
  · exact Nat.zero_le _
  · split
    · exact Nat.zero_le _
    · rw [pcs_len]
      have := cnt_le most.toNat xs.length (by omega)
      unfold nP
      omega
theorem glue_len (short : Bool) (l : List S29) (h : (l.flatMap (·.f3)).length ≤ 100000) : (glueP short l).1.length ≤ 100000 := by
  unfold glueP
  repeat (first | exact h | exact Nat.zero_le _ | split)
theorem bytes_V {w : World} {A : Option Addr} {n c : Nat} {xs : List Int} (h : (Kd.int .u8).C w A n xs) (hc : n ≤ c) : Kd.V (Kd.int .u8) 5 w w.heap.size (fun k => k < w.heap.size) (.slice A xs.length c) xs := by
  obtain rfl : xs.length = n := h.1
  exact Kd.V_mk hc (Kd.C_F (Kd.heap_int .u8) h)

set_option maxHeartbeats 4000000 in
set_option maxRecDepth 100000 in
theorem splits_walk (short : Bool) (first most : Int) (A : Option Addr) (n c : Nat) (xs : List Int) (B : Option Addr) (q d : Nat) (l : List S24) (w : World) (hS : Shapes w)
    (hx : (Kd.int .u8).C w A n xs) (hc : n ≤ c) (hl : k24.C w B q l) (hd : q ≤ d) (hb : ∀ x ∈ l, x.f3.length ≤ 140737488351232) :
    Calls Tryd.prog 5 #[.bool short, .int .i64 first, .int .i64 most, .slice A n c, .slice B q d] w fun ex w' => ex = .returned (.bool true) ∧ Below w.heap.size w w' := by
  have HS := Aside0.mk hS
  have HX := Aside0.mk hx
  have HC := Aside0.mk hc
  have HL := Aside0.mk hl
  have HD := Aside0.mk hd
  have HB := Aside0.mk hb
  clear hS hx hc hl hd hb
  go_enter Tryd.func5, Tryd.ntmps5
  go_wp2_with (fail)
  refine (speaks_any w HS.out).mono ?_
  rintro ex1 w2 ⟨rfl, hb⟩
  have X := Aside0.mk hb
  have HS2 := Aside0.mk (HS.out.below hb)
  clear hb
  by_cases hbig : 1000 < (n : Int)
  · have hb1 : decide (1000 < (n : Int)) = true := decide_eq_true hbig
    go_wp2_with (fail)
    refine (speaks_any w2 HS2.out).mono ?_
    rintro e3 w3 ⟨rfl, hb⟩
    have X3 := Aside0.mk (below_step X.out hb)
    clear hb
    go_wp2
    go_ret
    exact ⟨rfl, X3.out⟩
  have hb1 : decide (1000 < (n : Int)) = false := decide_eq_false hbig
  have HN := Aside0.mk (show n ≤ 1000 by omega)
  clear hbig
  go_wp2_with (fail)
  obtain ⟨fb, hfw, hft⟩ := ref_few l HB.out (by rw [HL.out.1]; exact HL.out.2.1)
  have HFT := Aside0.mk hft
  have hql : l.length = q := HL.out.1
  have hfew := marlinelaw23_Few.calls (l.length + 1) B d l fb w2 (by rw [hql]; exact Kd.C_below HL.out X.out) (by rw [hql]; exact HD.out) hfw
  rw [hql] at hfew
  refine hfew.mono ?_
  clear hfew hfw hft hql
  rintro ex3 w3 ⟨rfl, hb⟩
  replace X := Aside0.mk (below_step X.out hb)
  have HS3 := Aside0.mk (HS2.out.below hb)
  clear hb HS2
  cases fb with
  | false =>
    go_wp2_with (fail)
    refine (speaks_any w3 HS3.out).mono ?_
    rintro e4 w4 ⟨rfl, hb⟩
    have X3 := Aside0.mk (below_step X.out hb)
    clear hb
    go_wp2
    go_ret
    exact ⟨rfl, X3.out⟩
  | true =>
    obtain ⟨h60, h1000⟩ := HFT.out rfl
    have H60 := Aside0.mk h60
    have H1000 := Aside0.mk h1000
    clear h60 h1000
    go_wp2_with (fail)
    refine (split_any short first most A n c xs w3 HS3.out (Kd.C_below HX.out X.out) HC.out HN.out).mono ?_
    rintro ex4 w4 ⟨A4, c4, rfl, hcc, hC4, hb⟩
    have HC4 := Aside0.mk hC4
    have HCC := Aside0.mk hcc
    replace X := Aside0.mk (below_step X.out hb)
    have HS4 := Aside0.mk (HS3.out.below hb)
    clear hb HS3 hcc hC4
    obtain ⟨sp, hsp⟩ : ∃ s, splitP short first most xs = s := ⟨_, rfl⟩
    have hspl : sp.1.length ≤ 1000 := by
      rw [← hsp]
      exact split_len short first most xs (by rw [HX.out.1]; exact HN.out)
    obtain ⟨K, hK⟩ := ref_split short first most xs (by rw [HX.out.1]; exact HN.out)
    rw [hsp] at hK HC4 HCC
    have HSL := Aside0.mk hspl
    have HK := Aside0.mk hK
    simp only [hsp]
    clear hsp hspl hK
    obtain ⟨pl, next, er⟩ := sp
    dsimp only at HC4 HCC HSL HK
    dsimp only
    go_wp2_with (fail)
    have hxn : xs.length = n := HX.out.1
    have hV := bytes_V (Kd.C_below HX.out X.out) HC.out
    have h21 := marlineref23_Split.calls K short first most _ A c xs (pl.map of29) next er w4 hV HK.out
    rw [hxn] at h21
    refine h21.mono ?_
    clear h21 hV hxn
    rintro ex5 w5 ⟨v5, rfl, hN5, hb⟩
    obtain ⟨A5, c5, rfl, hc5, hC5⟩ := Kd.N_reads hN5
    have HC5 := Aside0.mk hC5
    have HCC5 := Aside0.mk hc5
    have HC45 := Aside0.mk (Kd.C_below HC4.out hb)
    replace X := Aside0.mk (below_step X.out hb)
    have HS5 := Aside0.mk (HS4.out.below hb)
    clear hb hN5 hc5 hC5 HS4 HC4
    go_wp2_with (fail)
    refine (Of_any B q d l w5 (Kd.C_below HL.out X.out) (by have := H60.out; rw [HL.out.1] at this; omega)).mono ?_
    rintro ex6 w6 ⟨A6, c6, rfl, hc6, hC6, hb⟩
    have HC6 := Aside0.mk hC6
    have HCC6 := Aside0.mk hc6
    replace HC5 := Aside0.mk (Kd.C_below HC5.out hb)
    replace HC45 := Aside0.mk (Kd.C_below HC45.out hb)
    replace X := Aside0.mk (below_step X.out hb)
    have HS6 := Aside0.mk (HS5.out.below hb)
    clear hb hc6 hC6 HS5
    go_wp2_with (fail)
    have hflat : ((l.map of24).flatMap (·.f3)).length ≤ 100000 := by
      rw [flat_map]
      have := H1000.out
      omega
    refine (glue_any short A6 q c6 (l.map of24) w6 HS6.out HC6.out HCC6.out (by have := H60.out; rw [HL.out.1] at this; omega) hflat).mono ?_
    clear hflat
    rintro ex7 w7 ⟨A7, c7, rfl, hc7, hC7, hb⟩
    have HC7 := Aside0.mk hC7
    have HCC7 := Aside0.mk hc7
    replace HC5 := Aside0.mk (Kd.C_below HC5.out hb)
    replace HC45 := Aside0.mk (Kd.C_below HC45.out hb)
    replace X := Aside0.mk (below_step X.out hb)
    clear hb hc7 hC7 HS6
    have hg := ref_glue short l (by have := H60.out; omega) (by have := H1000.out; omega)
    have hgl : (glueP short (l.map of24)).1.length ≤ 100000 := glue_len short _ (by rw [flat_map]; have := H1000.out; omega)
    generalize glueP short (l.map of24) = gp at HC7 HCC7 hg hgl ⊢
    have HG := Aside0.mk hg
    have HGL := Aside0.mk hgl
    clear hg hgl
    obtain ⟨gs, ge⟩ := gp
    dsimp only at HC7 HCC7 HG HGL
    dsimp only
    go_wp2_with (fail)
    have hql : l.length = q := HL.out.1
    have h24 := marlineref23_Glue.calls _ short B d l gs ge w7 (by rw [hql]; exact Kd.C_below HL.out X.out) (by rw [hql]; exact HD.out) HG.out
    rw [hql] at h24
    refine h24.mono ?_
    clear h24 hql
    rintro ex8 w8 ⟨v8, rfl, hR8, hb⟩
    obtain ⟨A8, c8, rfl, hc8, hC8⟩ := Kd.R_reads hR8
    have HC8 := Aside0.mk hC8
    have HCC8 := Aside0.mk hc8
    replace HC7 := Aside0.mk (Kd.C_below HC7.out hb)
    replace HC5 := Aside0.mk (Kd.C_below HC5.out hb)
    replace HC45 := Aside0.mk (Kd.C_below HC45.out hb)
    replace X := Aside0.mk (below_step X.out hb)
    clear hb hR8 hc8 hC8
    go_wp2_with (fail)
    refine (To_any A4 pl.length c4 pl w8 HC45.out (by have := HSL.out; omega)).mono ?_
    rintro ex9 w9 ⟨A9, c9, rfl, hc9, hC9, hb⟩
    have HC9 := Aside0.mk hC9
    have HCC9 := Aside0.mk hc9
    replace HC8 := Aside0.mk (Kd.C_below HC8.out hb)
    replace HC7 := Aside0.mk (Kd.C_below HC7.out hb)
    replace HC5 := Aside0.mk (Kd.C_below HC5.out hb)
    replace X := Aside0.mk (below_step X.out hb)
    clear hb hc9 hC9
    go_wp2_with (fail)
    have hpl : (pl.map of29).length = pl.length := List.length_map _
    have h18 := marlineref23_Same.calls ((pl.map of29).length + 1) A9 c9 (pl.map of29) A5 c5 (pl.map of29) true w9 (by rw [hpl]; exact HC9.out) (by rw [hpl]; exact HCC9.out) HC5.out HCC5.out (same_list (pl.map of29) (by rw [hpl]; have := HSL.out; omega))
    rw [hpl] at h18
    refine h18.mono ?_
    clear h18 hpl
    rintro ex10 w10 ⟨rfl, hd⟩
    have hb := hd.below
    replace HC8 := Aside0.mk (Kd.C_below HC8.out hb)
    replace HC7 := Aside0.mk (Kd.C_below HC7.out hb)
    replace X := Aside0.mk (below_step X.out hb)
    clear hb hd HC9 HC5
    go_wp2_with (fail)
    refine (marlineref01_Equal.calls (gs.length + 1) A7 c7 gs A8 c8 gs true w10 HC7.out HCC7.out HC8.out HCC8.out (equal_self gs (by have := HGL.out; omega))).mono ?_
    rintro ex11 w11 ⟨rfl, hd⟩
    have X11 := Aside0.mk (below_step X.out hd.below)
    clear hd
    go_wp2
    go_ret
    exact ⟨rfl, X11.out⟩

end Go.Proofs.YtgopklnfdlnojaaDoor.Sk
