/-
  OWN TEXT. PIPE: THE MACHINE, (11): ALL THE CALLER's MOVES WHILE ONE PUMPS.
-/
import Derived.Test.YtdmhgajamepgoaaQn
set_option linter.unusedVariables false
set_option linter.unusedSimpArgs false
set_option linter.unusedSectionVars false
namespace Go.Proofs.Ytdmhgajamepgoaa.Q
open Go Go.Conc
open Go.ConcN (sumTo upd sumTo_upd upd_ne upd_same)

theorem deaf_rd (d : Nat) (a : Addr) : deafBehind d #[rdE a] = d := by simp [deafBehind, rdE]
theorem deaf_wr (d : Nat) (a : Addr) : deafBehind d #[wrE a] = d := by simp [deafBehind, wrE]
theorem deaf_rw (d : Nat) (a : Addr) : deafBehind d #[rdE a, wrE a] = d := by simp [deafBehind, rdE, wrE]
theorem deaf_sem (d : Nat) (a : Addr) : deafBehind d (semEvents a) = d := by simp [deafBehind, semEvents]
theorem evG_rd {G n g : Nat} : ∀ e ∈ #[rdE (stA G)], EvG G n g e := fun e he => by simp at he; subst he; exact .at _ _ rfl
theorem evG_wr {G n g : Nat} : ∀ e ∈ #[wrE (stA G)], EvG G n g e := fun e he => by simp at he; subst he; exact .at _ _ rfl
theorem evG_rw {G n g : Nat} : ∀ e ∈ #[rdE (stA G), wrE (stA G)], EvG G n g e := fun e he => by simp at he; rcases he with rfl | rfl <;> exact .at _ _ rfl
theorem evG_sem {G n g : Nat} : ∀ e ∈ semEvents (smA G), EvG G n g e := fun e he => by
  simp [semEvents] at he
  rcases he with rfl | rfl | rfl | rfl
  · exact .dis
  · exact .at _ _ rfl
  · exact .at _ _ rfl
  · exact .ena

section
variable {P : Program} {B : World} {Post : Value → World → Prop} {dead : Nat → Prop} {p : PRec} {k : Nat} {gs gs' : Array Goroutine} {w w' : World} {sl : Option (Nat × Nat)} {t u : Trace} {q q' : Nat → Nat} {ex ex' : Nat → Prop} {r s r' s' : Nat} {c c' : CPh} {oc oc' : Bool} {st sm st' sm' : Int} {sg sg' : List Chunk} {d d' : Nat} {a g g' gw gw' : Goroutine} {tau tau' : Tau WX}

theorem Rest.states (h : Rest P B dead p k gs w t ex r s c oc st sm sg) : (∃ ph, stOf c ph = some (st, sm)) ∨ stGone c = some (st, sm) :=
  h.elim (fun ⟨_, _, _, h, _⟩ => .inl ⟨_, h.st⟩) fun ⟨_, h⟩ => .inr h.st

theorem woken_blocked {x y o : Goroutine} (h : y.status = .blocked) : woken P x y w o = o := by
  unfold Go.Conc.woken; rw [if_neg]; simp [h]

theorem caller_moves (h : PC P B dead p k gs w t q ex r s c oc st sm sg d g) (hr : Rest P B dead p k gs w t ex r s c oc st sm sg) (h0 : gs[0]? = some a) (hal : Alike a g)
    (hm : CMv P B Post ⟨sg, d, .pump p r c⟩ g (fun t g => KC P B Post t g ∧ J (CMv P B Post) t g)) :
    (∃ m' ops, runT P (crowd gs w sl) 0 = (.next m', ops) ∧ Ends P Post m' (t ++ ops)) ∨
    (∃ gs' a', runT P (crowd gs w sl) 0 = (.next (crowd gs' w sl), #[]) ∧ gs'.size = gs.size ∧ gs'[0]? = some a' ∧ CAt P B p sg r s c oc sm a' g ∧ a'.status = .blocked ∧ ∀ m, m ≠ 0 → gs'[m]? = gs[m]?) := by
  have hil : 0 < gs.size := Nat.lt_of_le_of_lt (Nat.zero_le _) h.kl
  have hstate := hr.states
  cases hm with
  | own hm => exact .inl (caller_own h hr h0 hal hm)
  | priv hm => exact .inl (caller_priv h hr h0 hal hm)
  | act hrun hm =>
    cases hm with
    | spawn p' sc sw g' child e => cases e
    | fin e => cases e
    | recv p' r' z e hd hst hv hz =>
      cases e
      have hv' := fun v hh => (hv v hh).1
      have hz' := fun hh => (hz hh).1
      by_cases hno : ∀ y, gs[k]? = some y → ex k → y.status = .running
      · rcases caller_recv (sl := sl) h hr h0 hal hst hno hv' hz' with hx | ⟨a', h1, h2, h3⟩
        · exact .inl hx
        · exact .inr ⟨_, a', h1, by simp, by rw [Array.getElem?_setIfInBounds_self_of_lt hil], h2, h3, fun m hm => by rw [Array.getElem?_setIfInBounds_ne (Ne.symm hm)]⟩
      · rcases hr with ⟨e, tau, gw, hwl, hj⟩ | ⟨e, _⟩
        · obtain ⟨b, hb, hwa⟩ := hwl.wor
          cases hwa with
          | run ha hbr => exact absurd (fun y hy _ => by obtain rfl : b = y := Option.some.inj (hb.symm.trans hy); exact hbr) hno
          | park v zo z' hbe hph _ hcap hAll hsend =>
            subst e
            left
            have xp := hwl.xp
            have xs := hwl.xs
            rw [xp] at hbe hcap hAll hsend
            rw [xs] at hcap hAll
            exact caller_refill h hwl hj h0 hal hst hb hbe hph hcap hAll hsend hv'
        · subst e; exact absurd (fun _ _ x => x.elim) hno
    | close p' r' c' g' e hc hd hwake hst hk =>
      cases e
      have hcl : c.closed = false := by rcases hc with ⟨rfl, _⟩ | rfl <;> rfl
      have hS := h.sh.s
      rw [hcl] at hS
      have hs := hst w h.sat hS
      exact .inl (caller_close h hc hr h0 hal hwake hs hk.1 (jc_running hk.2))
    | load p' r' e h1 h2 =>
      cases e
      left
      by_cases hz : st = 0
      · subst hz
        have hsm : sm = 0 := by
          rcases hstate with ⟨ph, hp⟩ | hp
          · cases ph <;> simp [stOf, KK] at hp
          · simp [stGone] at hp; exact hp.symm
        subst hsm
        obtain ⟨g', hs, hk, hj⟩ := h2 w h.sat h.sh.g
        exact caller_grp (c' := .pass) (st' := 0) (sm' := 0) h hr h0 hal hs (by rw [deaf_rd]; exact hk) (jc_running hj) rfl rfl rfl (fun _ _ => rfl) h.sh.g evG_rd rfl rfl (fun ph hp => by cases ph <;> simp [stOf, KK] at hp) (fun _ => rfl)
      · have hk0 : st = KK ∧ sm = 0 := by
          rcases hstate with ⟨ph, hp⟩ | hp
          · cases ph <;> simp [stOf] at hp <;> exact ⟨hp.1.symm, hp.2.symm⟩
          · simp [stGone] at hp; exact absurd hp.1.symm hz
        obtain ⟨rfl, rfl⟩ := hk0
        obtain ⟨g', hs, hk, hj⟩ := h1 w h.sat h.sh.g
        exact caller_grp (c' := .shut) (st' := KK) (sm' := 0) h hr h0 hal hs (by rw [deaf_rd]; exact hk) (jc_running hj) rfl rfl rfl (fun _ _ => rfl) h.sh.g evG_rd rfl rfl (fun ph hp => hp) (fun e => e)
    | load0 p' r' e h2 =>
      cases e
      left
      have hz : st = 0 ∧ sm = 0 := by
        rcases hstate with ⟨ph, hp⟩ | hp
        · cases ph <;> simp [stOf] at hp
        · simp [stGone] at hp; exact ⟨hp.1.symm, hp.2.symm⟩
      obtain ⟨rfl, rfl⟩ := hz
      obtain ⟨g', hs, hk, hj⟩ := h2 w h.sat h.sh.g
      exact caller_grp (c' := .pass) (st' := 0) (sm' := 0) h hr h0 hal hs (by rw [deaf_rd]; exact hk) (jc_running hj) rfl rfl rfl (fun _ _ => rfl) h.sh.g evG_rd rfl rfl (fun ph hp => by cases ph <;> simp [stOf] at hp) (fun _ => rfl)
    | cas p' r' e h1 h2 =>
      cases e
      left
      by_cases hz : st = 0
      · subst hz
        have hsm : sm = 0 := by
          rcases hstate with ⟨ph, hp⟩ | hp
          · cases ph <;> simp [stOf, KK] at hp
          · simp [stGone] at hp; exact hp.symm
        subst hsm
        obtain ⟨g', hs, hk, hj⟩ := h2 w h.sat h.sh.g
        exact caller_grp (c' := .shut0) (st' := 0) (sm' := 0) h hr h0 hal hs (by rw [deaf_rd]; exact hk) (jc_running hj) rfl rfl rfl (fun _ _ => rfl) h.sh.g evG_rd rfl rfl (fun ph hp => by cases ph <;> simp [stOf, KK] at hp) (fun _ => rfl)
      · have hk0 : st = KK ∧ sm = 0 := by
          rcases hstate with ⟨ph, hp⟩ | hp
          · cases ph <;> simp [stOf] at hp <;> exact ⟨hp.1.symm, hp.2.symm⟩
          · simp [stGone] at hp; exact absurd hp.1.symm hz
        obtain ⟨rfl, rfl⟩ := hk0
        obtain ⟨g', hs, hk, hj⟩ := h1 w h.sat h.sh.g
        exact caller_grp (c' := .reg) (st' := KK + 1) (sm' := 0) h hr h0 hal hs (by rw [deaf_rw]; exact hk) (jc_running hj) set_cell_size rfl rfl (fun b hb => set_cell_ne hb) (set_st h.sh.g) evG_rw rfl rfl (fun ph hp => by cases ph <;> simp [stOf] at hp ⊢) (fun e => by simp [stGone, KK] at e)
    | said p' r' g' e hst hk =>
      cases e
      left
      exact caller_grp (c' := .reg) (st' := st) (sm' := sm) h hr h0 hal (hst w h.sat) (by simp [deafBehind, mkE]; exact hk.1) (jc_running hk.2) rfl rfl rfl (fun _ _ => rfl) h.sh.g (fun e he => by simp at he; subst he; exact .said _ rfl rfl) rfl rfl (fun ph hp => hp) (fun e => e)
    | sem p' r' e hoff h1 h2 =>
      cases e
      by_cases hz : sm = 0
      · subst hz
        right
        have hs := h1 w st h.sat h.sh.g
        have hrun := runT_crowd_go (sl := sl) h0 (show stepG P (0 == 0) a w = _ from by rw [hal.step]; exact hs)
        refine ⟨_, _, hrun, by simp, getElem?_map_set hil, .sem rfl hoff rfl rfl, rfl, fun m hm => ?_⟩
        rw [Array.getElem?_setIfInBounds_ne (Ne.symm hm), Array.getElem?_map]
        cases gs[m]? with
        | none => rfl
        | some x => simp only [Option.map_some]; rw [woken_blocked rfl]
      · left
        have hk0 : st = 0 ∧ sm = 1 := by
          rcases hstate with ⟨ph, hp⟩ | hp
          · cases ph <;> simp [stOf] at hp <;> exact absurd hp.2.symm hz
          · simp [stGone] at hp; exact ⟨hp.1.symm, hp.2.symm⟩
        obtain ⟨rfl, rfl⟩ := hk0
        obtain ⟨g', hs, hk, hj⟩ := h2 w h.sat h.sh.g
        exact caller_grp (c' := .reg2) (st' := 0) (sm' := 0) h hr h0 hal hs (by rw [deaf_sem]; exact hk) (jc_running hj) set_cell_size rfl rfl (fun b hb => set_cell_ne hb) (set_sm h.sh.g) evG_sem rfl rfl (fun ph hp => by cases ph <;> simp [stOf] at hp) (fun _ => rfl)
    | load2 p' r' e h2 =>
      cases e
      left
      have hz : st = 0 ∧ sm = 0 := by
        rcases hstate with ⟨ph, hp⟩ | hp
        · cases ph <;> simp [stOf] at hp
        · simp [stGone] at hp; exact ⟨hp.1.symm, hp.2.symm⟩
      obtain ⟨rfl, rfl⟩ := hz
      obtain ⟨g', hs, hk, hj⟩ := h2 w h.sat h.sh.g
      exact caller_grp (c' := .pass) (st' := 0) (sm' := 0) h hr h0 hal hs (by rw [deaf_rd]; exact hk) (jc_running hj) rfl rfl rfl (fun _ _ => rfl) h.sh.g evG_rd rfl rfl (fun ph hp => by cases ph <;> simp [stOf] at hp) (fun _ => rfl)
    | acq p' r' g' e hd hst hk =>
      cases e
      exact .inl (caller_acq h hr h0 hal hd (hst w h.sat) fun s sw h1 h2 h3 h4 h5 => (hk s sw h1 h2 h3 h4 h5).1)
    | look p' r' c' g' e _ hst hk =>
      cases e
      exact .inl (caller_own1 h hr h0 hal ⟨g', w, #[], sg, hst w st sm h.sat h.sh.g, Guar.idle h.sat, hk⟩)
end

end Go.Proofs.Ytdmhgajamepgoaa.Q
