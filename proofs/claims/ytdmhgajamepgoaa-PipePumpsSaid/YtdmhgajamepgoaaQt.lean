/-
  OWN TEXT. PIPE: THE MACHINE, (16): ALL THE WORKER's MOVES.
-/
import Derived.Test.YtdmhgajamepgoaaQs
set_option linter.unusedVariables false
set_option linter.unusedSimpArgs false
set_option linter.unusedSectionVars false
namespace Go.Proofs.Ytdmhgajamepgoaa.Q
open Go Go.Conc
open Go.ConcN (sumTo upd sumTo_upd upd_ne upd_same)

theorem deaf_pre1 {d : Nat} {e : Event} (h : 0 < d) : ∀ j, j ≤ (#[e] : Array Event).size → e.loc ≠ .mark .enable → 0 < deafBehind d ((#[e] : Array Event).extract 0 j) := by
  intro j hj he
  match j, hj with
  | 0, _ => simpa [deafBehind] using h
  | 1, _ =>
    obtain ⟨loc, wr, sy⟩ := e
    cases loc with
    | mark m => cases m <;> simp_all [deafBehind]
    | _ => simpa [deafBehind] using h
theorem deaf_preR {d : Nat} {a : Addr} (h : 0 < d) : ∀ j, j ≤ (#[rdE a] : Array Event).size → 0 < deafBehind d ((#[rdE a] : Array Event).extract 0 j) := fun j hj => deaf_pre1 h j hj (by simp [rdE])
theorem deaf_preW {d : Nat} {a : Addr} (h : 0 < d) : ∀ j, j ≤ (#[wrE a] : Array Event).size → 0 < deafBehind d ((#[wrE a] : Array Event).extract 0 j) := fun j hj => deaf_pre1 h j hj (by simp [wrE])
theorem deaf_preRW {d : Nat} {a : Addr} (h : 0 < d) : ∀ j, j ≤ (#[rdE a, wrE a] : Array Event).size → 0 < deafBehind d ((#[rdE a, wrE a] : Array Event).extract 0 j) := by
  intro j hj
  match j, hj with
  | 0, _ => simpa [deafBehind] using h
  | 1, _ => simpa [deafBehind, rdE, wrE] using h
  | 2, _ => simpa [deafBehind, rdE, wrE] using h
theorem deaf_preS {d : Nat} {a : Addr} (h : 0 < d) : ∀ j, j ≤ (semEvents a).size → 0 < deafBehind d ((semEvents a).extract 0 j) := by
  intro j hj
  match j, hj with
  | 0, _ => simpa [deafBehind, semEvents] using h
  | 1, _ => simp [deafBehind, semEvents]
  | 2, _ => simp [deafBehind, semEvents]
  | 3, _ => simp [deafBehind, semEvents]
  | 4, _ => simpa [deafBehind, semEvents] using h
theorem nobR {a : Addr} : ∀ e ∈ (#[rdE a] : Array Event), ∀ r, e.loc ≠ .obj r := by simp [rdE]
theorem nobW {a : Addr} : ∀ e ∈ (#[wrE a] : Array Event), ∀ r, e.loc ≠ .obj r := by simp [wrE]
theorem nobRW {a : Addr} : ∀ e ∈ (#[rdE a, wrE a] : Array Event), ∀ r, e.loc ≠ .obj r := by simp [rdE, wrE]
theorem nobS {a : Addr} : ∀ e ∈ semEvents a, ∀ r, e.loc ≠ .obj r := by simp [semEvents]

section
variable {P : Program} {B : World} {Post : Value → World → Prop} {dead : Nat → Prop} {p : PRec} {k : Nat} {gs gs' : Array Goroutine} {w w' : World} {sl : Option (Nat × Nat)} {t u : Trace} {q q' : Nat → Nat} {ex ex' : Nat → Prop} {r s r' s' : Nat} {c c' : CPh} {oc oc' : Bool} {st sm st' sm' : Int} {sg sg' : List Chunk} {d d' : Nat} {a b g g' gw gw' : Goroutine} {tau tau' : Tau WX}

theorem worker_moves (h : PC P B dead p k gs w t q (· = k) r s c oc st sm sg d g) (hwl : WL P B dead p k gs w t r s c oc st sm sg tau gw) (hb : gs[k]? = some b) (hal : Alike b gw)
    (hm : WMv P B tau gw (fun t g' => KW P B Post p r c sg d g t g' ∧ J (WMv P B) t g')) (hmc : CMv P B Post ⟨sg, d, .pump p r c⟩ g (fun t g => KC P B Post t g ∧ J (CMv P B Post) t g))
    (hG : ∀ dead k gs w sl t q s oc st sm, PC P B dead p k gs w t q (fun _ => False) r s c oc st sm sg d g → WG B dead p k w t s c oc st sm sg → Ends P Post (crowd gs w sl) t) :
    (∃ m' ops, runT P (crowd gs w sl) k = (.next m', ops) ∧ Ends P Post m' (t ++ ops)) ∨
    (∃ b', runT P (crowd gs w sl) k = (.next (crowd (gs.setIfInBounds k b') w sl), #[]) ∧ WAt P B tau c r b' gw ∧ b'.status = .blocked) := by
  have hxp := hwl.xp
  have hxs := hwl.xs
  cases hm with
  | own hm => exact .inl (worker_own h hwl hb hal hm)
  | priv hm => exact .inl (worker_priv h hwl hb hal hm)
  | act hrun hm =>
    cases hm with
    | poll z hph hd hst h1 h2 => exact .inl (worker_poll h hwl hb hal hph (by rw [← hxp]; exact hst) h1.1 (fun e => (h2 (by rw [hxp]; exact e)).1))
    | send v zo z hph hd hAll hst h1 h2 =>
      rw [hxp] at hst
      rw [hxp, hxs] at hAll
      have h2 := fun e : p.whole = false => h2 (by rw [hxp]; exact e)
      rw [hxs] at h1 h2
      obtain ⟨a, h0, hca⟩ := h.cal
      by_cases hpk : ∃ z0, a = parked g #[rcase p.O z0] (.recv true) ∧ c = .recv ∧ r = s ∧ (∀ w, Sat B sg w → stepG P true g w = .comm g #[rcase p.O z0] true (.recv true) w #[])
      · obtain ⟨z0, hae, rfl, hrs, hrecv⟩ := hpk
        obtain ⟨_, hv, _⟩ := recv_of (z := z0) rfl hmc h.sat h.sh.s hrecv
        exact .inl (worker_meets h hwl hb hal hph hAll hst h0 hae hrs (hv v (by rw [hrs]; exact hAll)).1 h1.2)
      · rcases worker_send (sl := sl) h hwl hb hal hph hAll hst (fun x hx f => by
          obtain rfl : a = x := Option.some.inj (h0.symm.trans hx)
          cases hca with
          | run _ hr => exact offersAt_of_not_blocked (by rw [hr]; simp) _ f
          | park z0 e1 e2 _ e4 e5 => exact absurd ⟨z0, e1, e2, e4, e5⟩ hpk
          | sem e1 e2 _ _ => simp [offersAt, e1, e2]) h1.1 (fun e => (h2 e).1) with hx | ⟨_, b', e1, e2, e3⟩
        · exact .inl hx
        · exact .inr ⟨b', e1, e2, e3⟩
    | close stp g' hph hd hcomp hwake hst hk =>
      have hoc : oc = false := by rw [hwl.oc, hph]; rfl
      subst hoc
      have hs := hst w _ _ _ _ hwl.sat (by rw [hxp]; exact h.sh.o)
      rw [hxp] at hs
      exact .inl (worker_close h hwl hb hal hph hwake (by rw [← hxs, ← hxp]; exact hcomp) hs hk.1 (jw_running hk.2))
    | rel g' sw hph hd hst hsw hnd hfin hk =>
      have hs := hst w hwl.sat
      rw [hxp] at hs
      rw [hxp, hxs] at hfin
      exact .inl (worker_rel h hwl hb hal hph hd hs hsw hnd hfin hk.1 (jw_running hk.2))
    | add hph hd h1 h2 =>
      left
      rw [hxp] at h1 h2
      have hst := hwl.st
      rw [hph] at hst
      have hrel : tau.x.ph.released = true := by rw [hph]; rfl
      have hGw := h.sh.g
      have key : ((c = .recv ∨ c = .over ∨ c = .shut) ∧ st = KK ∧ sm = 0) ∨ (c = .reg ∧ st = KK + 1 ∧ sm = 0) := by
        cases c <;> simp [stOf] at hst
        · exact .inl ⟨.inl rfl, hst.1.symm, hst.2.symm⟩
        · exact .inl ⟨.inr (.inl rfl), hst.1.symm, hst.2.symm⟩
        · exact .inl ⟨.inr (.inr rfl), hst.1.symm, hst.2.symm⟩
        · exact .inr ⟨rfl, hst.1.symm, hst.2.symm⟩
      rcases key with ⟨hc, rfl, rfl⟩ | ⟨rfl, rfl, rfl⟩
      · obtain ⟨g', hs, n, hq⟩ := h1 w hwl.sat hGw
        exact worker_gone (st' := 0) (sm' := 0) h hwl hb hal hrel hs hq hG set_cell_size rfl rfl (fun x hx => set_cell_ne hx) (set_st hGw) evG_rw nobRW (deaf_rw _ _) (deaf_preRW hd) (by rcases hc with rfl | rfl | rfl <;> rfl) (fun a ha => ha.woken)
      · obtain ⟨g', hs, hk, hj⟩ := h2 w hwl.sat hGw
        exact worker_grp (ph' := .d2) (st' := 1) h hwl hb hal hrel rfl hs (by rw [hxp]; exact hk) (jw_running hj) set_cell_size rfl rfl (fun x hx => set_cell_ne hx) (set_st hGw) rfl evG_rw nobRW (deaf_rw _ _) (deaf_preRW hd) rfl
    | load hph hd h1 =>
      left
      rw [hxp] at h1
      have hst := hwl.st
      rw [hph] at hst
      have hrel : tau.x.ph.released = true := by rw [hph]; rfl
      have hGw := h.sh.g
      obtain ⟨rfl, rfl, rfl⟩ : c = .reg ∧ st = 1 ∧ sm = 0 := by cases c <;> simp [stOf] at hst; exact ⟨rfl, hst.1.symm, hst.2.symm⟩
      obtain ⟨g', hs, hk, hj⟩ := h1 w hwl.sat hGw
      exact worker_grp (ph' := .d3) (st' := 1) h hwl hb hal hrel rfl hs (by rw [hxp]; exact hk) (jw_running hj) rfl rfl rfl (fun _ _ => rfl) hGw rfl evG_rd nobR (deaf_rd _ _) (deaf_preR hd) rfl
    | store hph hd h1 =>
      left
      rw [hxp] at h1
      have hst := hwl.st
      rw [hph] at hst
      have hrel : tau.x.ph.released = true := by rw [hph]; rfl
      have hGw := h.sh.g
      obtain ⟨rfl, rfl, rfl⟩ : c = .reg ∧ st = 1 ∧ sm = 0 := by cases c <;> simp [stOf] at hst; exact ⟨rfl, hst.1.symm, hst.2.symm⟩
      obtain ⟨g', hs, hk, hj⟩ := h1 w hwl.sat hGw
      exact worker_grp (ph' := .d4) (st' := 0) h hwl hb hal hrel rfl hs (by rw [hxp]; exact hk) (jw_running hj) set_cell_size rfl rfl (fun x hx => set_cell_ne hx) (set_st hGw) rfl evG_wr nobW (deaf_wr _ _) (deaf_preW hd) rfl
    | sem hph hd hwake h1 =>
      left
      rw [hxp] at h1
      have hst := hwl.st
      rw [hph] at hst
      have hrel : tau.x.ph.released = true := by rw [hph]; rfl
      have hGw := h.sh.g
      obtain ⟨rfl, rfl, rfl⟩ : c = .reg ∧ st = 0 ∧ sm = 0 := by cases c <;> simp [stOf] at hst; exact ⟨rfl, hst.1.symm, hst.2.symm⟩
      obtain ⟨g', hs, n, hq⟩ := h1 w hwl.sat hGw
      refine worker_gone (st' := 0) (sm' := 1) h hwl hb hal hrel hs hq hG set_cell_size rfl rfl (fun x hx => set_cell_ne hx) (set_sm hGw) evG_sem nobS (deaf_sem _ _) (deaf_preS hd) rfl (fun a ha => ?_)
      cases ha with
      | run e1 e2 => rw [woken_run e2]; exact .run e1 e2
      | park z0 _ e2 _ _ _ => cases e2
      | sem e1 e2 _ _ =>
        have e : woken P b g' (w.setCell (smA p.G) (.int .u32 1)) a = { a with status := .running } := by
          unfold Go.Conc.woken
          rw [if_pos (by rw [hal.wake, hwake]; rcases hq.status with e | e <;> rw [e] <;> rfl), e1]
          simp [Goroutine.again, e2]
        rw [e, e1]
        exact .run ⟨rfl, rfl, rfl⟩ rfl
    | look g' _ hst hk =>
      exact .inl (worker_own1 h hwl hb hal ⟨g', w, #[], tau.sg, hst w st sm hwl.sat (by rw [hxp]; exact h.sh.g), Guar.idle hwl.sat, fun _ => by simp, hk⟩)
end

end Go.Proofs.Ytdmhgajamepgoaa.Q
