/- Loops by their rounds. -/
import Derived.Test.YtpgjihkaocahbaaKo
namespace Go.Lan
open Go.RowKit

/-- The slots that operations fill. -/
def asgOps : List Oper → List Nat
  | [] => []
  | o :: l => match o.dst with
    | some d => d :: asgOps l
    | none => asgOps l

def asgs : Code → List Nat
  | .region _ ops _ => asgOps ops.toList
  | .seq a b => appL (asgs a) (asgs b)
  | .cond _ a b => appL (asgs a) (asgs b)
  | .block _ a => asgs a
  | .loop a => asgs a
  | _ => []

theorem memN_app {d : Nat} : ∀ {l m : List Nat}, memN (appL l m) d = false → memN l d = false ∧ memN m d = false
  | [], m, h => ⟨rfl, h⟩
  | a :: l, m, h => by
    simp only [appL, memN, Bool.or_eq_false_iff] at h ⊢
    exact ⟨⟨h.1, (memN_app h.2).1⟩, (memN_app h.2).2⟩

section
variable {P : Program} {T : Tab} {M : Prims} {Φ : Fns} {pc : Bool} {Λ : Loops} {tn : Nat}

theorem getE_put_ne {o : Oper} {l : List Oper} {v : Value} {e : Env} {d : Nat} (h : memN (asgOps (o :: l)) d = false) : getE (putE o.dst v e) d = getE e d ∧ memN (asgOps l) d = false := by
  unfold asgOps at h
  split at h
  · rename_i d' hd
    simp only [memN, Bool.or_eq_false_iff] at h
    refine ⟨?_, h.2⟩
    rw [hd, putE, getE_cons, if_neg]
    intro e'
    rw [e'] at h
    simp at h
  · rename_i hd
    rw [hd]
    exact ⟨rfl, h⟩

/-- One end, whatever follows. -/
def One {res : Type} (F : (ρ : Type) → (Env → Hp → Option ρ) → Option ρ) (asg : List Nat) (e : Env) (k : Env → Hp → Option res) (r : res) : Prop :=
  ∃ e1 h1, (∀ (ρ : Type) (k' : Env → Hp → Option ρ), F ρ k' = k' e1 h1) ∧ k e1 h1 = some r ∧ ∀ d, memN asg d = false → getE e1 d = getE e d

theorem evOne_one {o : Oper} {e : Env} {h : Hp} {res : Type} {k : Env → Hp → Option res} {r : res} (hev : evOne T M Φ o e h k = some r) :
    One (fun _ k' => evOne T M Φ o e h k') (asgOps [o]) e k r := by
  unfold evOne at hev
  split at hev
  · rename_i c a b hp
    split at hev
    · rename_i x hx
      cases x
      · exact ⟨_, _, fun ρ k' => by unfold evOne; rw [hp]; dsimp only; rw [hx]; rfl, hev, fun d hd => by rw [(getE_put_ne (l := []) hd).1, getE_refine hx]⟩
      · exact ⟨_, _, fun ρ k' => by unfold evOne; rw [hp]; dsimp only; rw [hx]; rfl, hev, fun d hd => by rw [(getE_put_ne (l := []) hd).1, getE_refine hx]⟩
    · cases hev
  · rename_i hp
    split at hev
    · rename_i g v h' hop
      obtain ⟨rfl, hk⟩ := cond_some hev
      exact ⟨_, _, fun ρ k' => by unfold evOne; rw [hp]; dsimp only; rw [hop]; rfl, hk, fun d hd => (getE_put_ne (l := []) hd).1⟩
    · cases hev

theorem evOps_one {res : Type} (all : List Oper) : ∀ (l : List Oper) (e : Env) (h : Hp) (k : Env → Hp → Option res) (r : res), evOps T M Φ all l e h k = some r →
    One (fun _ k' => evOps T M Φ all l e h k') (asgOps l) e k r
  | [], e, h, k, r, hev => ⟨e, h, fun _ _ => rfl, hev, fun _ _ => rfl⟩
  | o :: l, e, h, k, r, hev => by
    have split1 : ∀ d, memN (asgOps (o :: l)) d = false → memN (asgOps [o]) d = false ∧ memN (asgOps l) d = false := by
      intro d hd
      refine ⟨?_, (getE_put_ne (v := .tuple #[]) (e := []) hd).2⟩
      unfold asgOps at hd ⊢
      split at hd
      · simp only [memN, Bool.or_eq_false_iff] at hd
        simp [hd.1, asgOps, memN]
      · simp [asgOps, memN]
    have one : ∀ e2, getE e2 = getE e → (evOne T M Φ o e2 h fun e h => evOps T M Φ all l e h k) = some r →
        One (fun _ k' => evOne T M Φ o e2 h fun e h => evOps T M Φ all l e h k') (asgOps (o :: l)) e k r := by
      intro e2 he hh
      obtain ⟨e1, h1, q1, q2, q3⟩ := evOne_one hh
      obtain ⟨e3, h3, q4, q5, q6⟩ := evOps_one all l e1 h1 k r q2
      exact ⟨e3, h3, fun ρ k' => (q1 ρ _).trans (q4 ρ k'), q5, fun d hd => by rw [q6 d (split1 d hd).2, q3 d (split1 d hd).1, he]⟩
    have skip : ∀ e2, getE e2 = getE e → evOps T M Φ all l (putE o.dst (.tuple #[]) e2) h k = some r →
        One (fun _ k' => evOps T M Φ all l (putE o.dst (.tuple #[]) e2) h k') (asgOps (o :: l)) e k r := by
      intro e2 he hh
      obtain ⟨e3, h3, q4, q5, q6⟩ := evOps_one all l _ h k r hh
      exact ⟨e3, h3, q4, q5, fun d hd => by rw [q6 d (split1 d hd).2, (getE_put_ne hd).1, he]⟩
    have conv : ∀ {F G : (ρ : Type) → (Env → Hp → Option ρ) → Option ρ}, (∀ ρ k', F ρ k' = G ρ k') → One G (asgOps (o :: l)) e k r → One F (asgOps (o :: l)) e k r := by
      intro F G hFG ⟨e3, h3, q4, q5, q6⟩
      exact ⟨e3, h3, fun ρ k' => (hFG ρ k').trans (q4 ρ k'), q5, q6⟩
    simp only [evOps] at hev
    split at hev
    · rename_i hg
      exact conv (fun ρ k' => by simp only [evOps, hg]) (one e rfl hev)
    · rename_i j' want hg
      split at hev
      · cases hev
      · rename_i s hs
        split at hev
        · rename_i b hb
          have hself : ∀ c, c = b → getE ((s, .bool c) :: e) = getE e := by
            intro c hc
            funext n
            rw [getE_cons]
            split
            · rename_i h1; rw [← h1, hb, hc]
            · rfl
          cases b <;> cases want <;> simp only [cond_true, cond_false] at hev
          · exact conv (fun ρ k' => by simp only [evOps, hg, hs, hb, cond_false]) (one _ (hself _ rfl) hev)
          · exact conv (fun ρ k' => by simp only [evOps, hg, hs, hb, cond_false]) (skip _ (hself _ rfl) hev)
          · exact conv (fun ρ k' => by simp only [evOps, hg, hs, hb, cond_true]) (skip _ (hself _ rfl) hev)
          · exact conv (fun ρ k' => by simp only [evOps, hg, hs, hb, cond_true]) (one _ (hself _ rfl) hev)
        · rename_i l' hb
          exact conv (fun ρ k' => by simp only [evOps, hg, hs, hb]) (skip e rfl hev)
        · cases hev

/-- A summary leaves alone what its loop leaves alone. -/
def LoopsFrame (Λ : Loops) : List Code → Prop
  | [] => True
  | c :: l => (∀ e h g x e' h', Λ (keyOf c) e h = some (g, x, e', h') → ∀ d, memN (asgs c) d = false → getE e' d = getE e d) ∧ LoopsFrame Λ l

theorem loopsFrame_app {Λ : Loops} : ∀ {l m : List Code}, LoopsFrame Λ (appL l m) → LoopsFrame Λ l ∧ LoopsFrame Λ m
  | [], _, h => ⟨trivial, h⟩
  | _ :: _, _, h => ⟨⟨h.1, (loopsFrame_app h.2).1⟩, (loopsFrame_app h.2).2⟩

theorem noLoopsFrame : ∀ l : List Code, LoopsFrame noLoops l
  | [] => trivial
  | _ :: l => ⟨fun _ _ _ _ _ _ h => (by cases h), noLoopsFrame l⟩

theorem ev_one {res : Type} {r : res} : ∀ (n : Nat) (c : Code) (e : Env) (h : Hp) (k : Out → Env → Hp → Option res), LoopsFrame Λ (loopsOf c) → ev T M Φ Λ pc tn n c e h k = some r →
    ∃ o e1 h1, (∀ (ρ : Type) (k' : Out → Env → Hp → Option ρ), ev T M Φ Λ pc tn n c e h k' = k' o e1 h1) ∧ k o e1 h1 = some r ∧ ∀ d, memN (asgs c) d = false → getE e1 d = getE e d
  | 0, c, e, h, k, _, hev => by simp [ev] at hev
  | n + 1, c, e, h, k, hl, hev => by
    cases c with
    | skip => exact ⟨.norm, e, h, fun _ _ => rfl, hev, fun _ _ => rfl⟩
    | region id ops d =>
      simp only [ev] at hev
      split at hev
      · rename_i hok
        obtain ⟨e1, h1, q1, q2, q3⟩ := evOps_one ops.toList ops.toList e h (k .norm) r hev
        refine ⟨.norm, e1, h1, fun ρ k' => ?_, q2, q3⟩
        simp only [ev, hok]
        exact q1 ρ (k' .norm)
      · cases hev
    | seq x y =>
      simp only [ev] at hev
      obtain ⟨hl1, hl2⟩ := loopsFrame_app hl
      obtain ⟨o, e1, h1, q1, q2, q3⟩ := ev_one n x e h _ hl1 hev
      cases o with
      | norm =>
        obtain ⟨o2, e2, h2, q4, q5, q6⟩ := ev_one n y e1 h1 k hl2 q2
        exact ⟨o2, e2, h2, fun ρ k' => by simp only [ev]; rw [q1]; exact q4 ρ k', q5, fun d hd => by rw [q6 d (memN_app hd).2, q3 d (memN_app hd).1]⟩
      | exit id => exact ⟨.exit id, e1, h1, fun ρ k' => by simp only [ev]; rw [q1], q2, fun d hd => q3 d (memN_app hd).1⟩
      | ret => exact ⟨.ret, e1, h1, fun ρ k' => by simp only [ev]; rw [q1], q2, fun d hd => q3 d (memN_app hd).1⟩
    | cond x y z =>
      simp only [ev] at hev
      split at hev
      · rename_i t ht
        obtain ⟨hl1, hl2⟩ := loopsFrame_app hl
        cases t
        · obtain ⟨o, e1, h1, q1, q2, q3⟩ := ev_one n z _ h k hl2 hev
          exact ⟨o, e1, h1, fun ρ k' => by simp only [ev, ht, cond_false]; exact q1 ρ k', q2, fun d hd => by rw [q3 d (memN_app hd).2, getE_refine ht]⟩
        · obtain ⟨o, e1, h1, q1, q2, q3⟩ := ev_one n y _ h k hl1 hev
          exact ⟨o, e1, h1, fun ρ k' => by simp only [ev, ht, cond_true]; exact q1 ρ k', q2, fun d hd => by rw [q3 d (memN_app hd).1, getE_refine ht]⟩
      · cases hev
    | block id x =>
      simp only [ev] at hev
      obtain ⟨o, e1, h1, q1, q2, q3⟩ := ev_one n x e h _ hl hev
      cases o with
      | norm => exact ⟨.norm, e1, h1, fun ρ k' => by simp only [ev]; rw [q1], q2, q3⟩
      | exit j =>
        dsimp only at q2
        split at q2
        · rename_i hj
          exact ⟨.norm, e1, h1, fun ρ k' => by simp only [ev]; rw [q1]; simp only [hj], q2, q3⟩
        · rename_i hj
          exact ⟨.exit j, e1, h1, fun ρ k' => by simp only [ev]; rw [q1]; simp only [hj], q2, q3⟩
      | ret => exact ⟨.ret, e1, h1, fun ρ k' => by simp only [ev]; rw [q1], q2, q3⟩
    | loop x =>
      have hl0 := hl
      simp only [ev] at hev
      split at hev
      · rename_i g j e' h' hΛ
        obtain ⟨rfl, hk⟩ := cond_some hev
        exact ⟨.exit j, e', h', fun ρ k' => by simp only [ev, hΛ, cond_true], hk, fun d hd => hl.1 e h true j e' h' hΛ d hd⟩
      · rename_i hΛ
        obtain ⟨o, e1, h1, q1, q2, q3⟩ := ev_one n x e h _ hl.2 hev
        cases o with
        | norm =>
          obtain ⟨o2, e2, h2, q4, q5, q6⟩ := ev_one n (.loop x) e1 h1 k hl0 q2
          exact ⟨o2, e2, h2, fun ρ k' => by simp only [ev, hΛ]; rw [q1]; exact q4 ρ k', q5, fun d hd => by rw [q6 d hd, q3 d hd]⟩
        | exit id => exact ⟨.exit id, e1, h1, fun ρ k' => by simp only [ev, hΛ]; rw [q1], q2, q3⟩
        | ret => exact ⟨.ret, e1, h1, fun ρ k' => by simp only [ev, hΛ]; rw [q1], q2, q3⟩
    | exit id => exact ⟨.exit id, e, h, fun _ _ => rfl, hev, fun _ _ => rfl⟩
    | ret => exact ⟨.ret, e, h, fun _ _ => rfl, hev, fun _ _ => rfl⟩
    | _ => simp [ev] at hev

/-! ### Rounds -/
def runL {σ : Type} (step : σ → Option (Bool × σ)) : Nat → σ → Option σ
  | 0, _ => none
  | n + 1, s => match step s with
    | none => none
    | some (true, s') => runL step n s'
    | some (false, s') => some s'

def unkV : Value := .complex .f32 0 0

/-- The slots of a state, what the loop fills besides, and what it leaves alone. -/
def mkE (vals : List (Nat × Value)) (asg : List Nat) (b : Nat → Value) : List Nat → Env
  | [] => []
  | d :: l => (d, match lk vals d with
    | some v => v
    | none => match memN asg d with
      | true => unkV
      | false => b d) :: mkE vals asg b l
where lk : List (Nat × Value) → Nat → Option Value
  | [], _ => none
  | (k, v) :: l, d => match Nat.beq k d with
    | true => some v
    | false => lk l d

def keysLt (n : Nat) : Env → Bool
  | [] => true
  | (k, _) :: e => Nat.blt k n && keysLt n e

def upTo : Nat → Nat → List Nat
  | 0, _ => []
  | n + 1, i => i :: upTo n (i + 1)

theorem getE_ge {n : Nat} {d : Nat} (hd : n ≤ d) : ∀ {e : Env}, keysLt n e = true → getE e d = .tuple #[]
  | [], _ => rfl
  | (k, v) :: e, h => by
    simp only [keysLt, Bool.and_eq_true, Nat.blt_eq] at h
    rw [getE_cons, if_neg (by omega), getE_ge hd h.2]

theorem getE_mkE {vals : List (Nat × Value)} {asg : List Nat} {b : Nat → Value} {d : Nat} : ∀ (n i : Nat), getE (mkE vals asg b (upTo n i)) d = if i ≤ d ∧ d < i + n then (match mkE.lk vals d with | some v => v | none => match memN asg d with | true => unkV | false => b d) else .tuple #[]
  | 0, i => by
    rw [if_neg (by omega)]
    rfl
  | n + 1, i => by
    simp only [upTo, mkE]
    rw [getE_cons, getE_mkE n (i + 1)]
    by_cases h : i = d
    · subst h
      rw [if_pos rfl, if_pos (by omega)]
    · rw [if_neg h]
      by_cases h2 : i + 1 ≤ d ∧ d < i + 1 + n
      · rw [if_pos h2, if_pos (by omega)]
      · rw [if_neg h2, if_neg (by omega)]

theorem lk_get {e : Env} {d : Nat} {v : Value} : ∀ {vals : List (Nat × Value)}, (∀ p ∈ vals, getE e p.1 = p.2) → mkE.lk vals d = some v → getE e d = v
  | [], _, h => by simp [mkE.lk] at h
  | (k, u) :: l, hv, h => by
    simp only [mkE.lk] at h
    split at h
    · rename_i hk
      cases h
      rw [← Nat.eq_of_beq_eq_true hk]
      exact hv (k, v) (by simp)
    · exact lk_get (fun p hp => hv p (by simp [hp])) h

theorem lk_slots {d : Nat} : ∀ {vals vals' : List (Nat × Value)}, vals.map (·.1) = vals'.map (·.1) → mkE.lk vals d = none → mkE.lk vals' d = none
  | [], [], _, _ => rfl
  | [], _ :: _, h, _ => by simp at h
  | _ :: _, [], h, _ => by simp at h
  | (k, u) :: l, (k', u') :: l', hs, h => by
    simp only [List.map_cons, List.cons.injEq] at hs
    obtain ⟨rfl, hs⟩ := hs
    simp only [mkE.lk] at h ⊢
    split at h
    · cases h
    · rename_i hk
      exact lk_slots hs h

/-- What stands in the slots is so, and elsewhere as before or unknown. -/
theorem weak_mkE {vals : List (Nat × Value)} {asg : List Nat} {b : Nat → Value} {n : Nat} {e : Env} (hv : ∀ p ∈ vals, getE e p.1 = p.2) (hb : ∀ d, memN asg d = false → d < n → mkE.lk vals d = none → getE e d = b d) (hn : ∀ d, n ≤ d → getE e d = .tuple #[]) :
    weakE e (mkE vals asg b (upTo n 0)) := by
  intro d
  rw [getE_mkE]
  by_cases h : d < n
  · rw [if_pos ⟨Nat.zero_le _, by omega⟩]
    cases hl : mkE.lk vals d with
    | some v => exact .inl (lk_get hv hl).symm
    | none =>
      dsimp only
      cases ha : memN asg d with
      | true => exact .inr ⟨_, _, _, rfl⟩
      | false => exact .inl (hb d ha h hl).symm
  · rw [if_neg (by omega), hn d (by omega)]
    exact .inl rfl

def sndL : List (Nat × Value) → List Value
  | [] => []
  | p :: l => p.2 :: sndL l

def getEs (e : Env) : List Nat → List Value
  | [] => []
  | d :: l => getE e d :: getEs e l

theorem getEs_eq {e : Env} : ∀ {sl : List Nat} {vals : List (Nat × Value)}, vals.map (·.1) = sl → getEs e sl = sndL vals → ∀ p ∈ vals, getE e p.1 = p.2
  | _, [], _, _, p, hp => by simp at hp
  | _, (k, v) :: vals, h1, h2, p, hp => by
    simp only [List.map_cons] at h1
    subst h1
    simp only [getEs, sndL, List.cons.injEq] at h2
    rcases List.mem_cons.1 hp with rfl | hp
    · exact h2.1
    · exact getEs_eq rfl h2.2 p hp

/-- A loop of rounds over numbers: it leaves memory alone. -/
theorem loop_rounds (S : Setting P T Φ pc) {c : Code} (hl : LoopsOK P tn Λ (loopsOf c)) (hfr : LoopsFrame Λ (loopsOf c)) {σ : Type} (step : σ → Option (Bool × σ)) (vals : σ → List (Nat × Value)) (sl : List Nat) (hsl : ∀ s, (vals s).map (·.1) = sl) (x : Nat) (N : Nat) {asg : List Nat} (hasg : asgs c = asg)
    (hev : ∀ (b : Nat → Value) (h : Hp) (s s' : σ) (g : Bool), step s = some (g, s') → ev T M0 Φ Λ pc tn N c (mkE (vals s) asg b (upTo tn 0)) h (fun o e h => some (o, getEs e sl, h)) = some (cond g .norm (.exit x), sndL (vals s'), h))
    (hin0 : allBelow tn asg = true) :
    ∀ (n : Nat) (s s' : σ) (e : Env) (h : Hp), runL step n s = some s' → keysLt tn e = true → (∀ p ∈ vals s, getE e p.1 = p.2) → LoopSem P tn c e h x (mkE (vals s') asg (getE e) (upTo tn 0)) h := by
  intro n s s' e h hrun hk hs
  subst hasg
  have hin : ∀ d, memN (asgs c) d = true → d < tn := fun d hd => allBelow_mem hin0 d ((memN_iff _ _).1 hd)
  have hinv := loopSem_inv S hl (X := Nat × σ × σ) (I := fun y => runL step y.1 y.2.1 = some y.2.2) (E := fun y => mkE (vals y.2.1) (asgs c) (getE e) (upTo tn 0)) (H := fun _ => h) (x := fun _ => x) (E' := fun y => mkE (vals y.2.2) (asgs c) (getE e) (upTo tn 0)) (H' := fun _ => h) (μ := fun y => y.1) ?_ n (n, s, s') (Nat.le_refl _) hrun
  · intro w0 β0 β a w Q hf hr hq
    refine hinv w0 β0 β a w Q (hf.weak (weak_mkE hs (fun _ _ _ _ => rfl) fun d hd => getE_ge hd hk)) hr hq
  · intro ⟨m, u, u'⟩ hI
    dsimp only at hI ⊢
    cases m with
    | zero => simp [runL] at hI
    | succ m =>
      simp only [runL] at hI
      have fin : ∀ g s1, step u = some (g, s1) → ∃ o e1 h1, ev T M0 Φ Λ pc tn N c (mkE (vals u) (asgs c) (getE e) (upTo tn 0)) h (fun o e h => some (o, e, h)) = some (o, e1, h1) ∧ o = cond g .norm (.exit x) ∧ h1 = h ∧ weakE e1 (mkE (vals s1) (asgs c) (getE e) (upTo tn 0)) := by
        intro g s1 hst
        obtain ⟨o, e1, h1, q1, q2, q3⟩ := ev_one N c _ h _ hfr (hev (getE e) h u s1 g hst)
        simp only [Option.some.injEq, Prod.mk.injEq] at q2
        refine ⟨o, e1, h1, q1 _ _, q2.1, q2.2.2, weak_mkE (getEs_eq (hsl s1) q2.2.1) (fun d hd hlt hn => ?_) fun d hd => ?_⟩
        · rw [q3 d hd, getE_mkE, if_pos ⟨Nat.zero_le _, by omega⟩, lk_slots ((hsl s1).trans (hsl u).symm) hn, hd]
        · have : memN (asgs c) d = false := by
            cases hm : memN (asgs c) d with
            | false => rfl
            | true => have := hin d hm; omega
          rw [q3 d this, getE_mkE, if_neg (by omega)]
      split at hI
      · cases hI
      · rename_i s1 hst
        obtain ⟨o, e1, h1, q1, rfl, rfl, q4⟩ := fin true s1 hst
        exact .inl ⟨N, (m, s1, u'), e1, q1, q4, hI, Nat.lt_succ_self _, rfl, rfl, rfl⟩
      · rename_i s1 hst
        cases hI
        obtain ⟨o, e1, h1, q1, rfl, rfl, q4⟩ := fin false _ hst
        exact .inr ⟨N, e1, q1, q4⟩

end

/-! ### What is called, function by function -/
abbrev Ph := List Value → Option (Bool × Value)
structure PhOK (P : Program) (i : FuncId) (F : Ph) : Prop where
  ok : ∀ args v, F args = some (true, v) → args.all dpV = true ∧ npR v = true ∧ PureOK P i args v

def noFns : FuncId → List Value → Option (Bool × Value) := fun _ _ => none
def ifId (i : Nat) (F : Ph) (G : FuncId → List Value → Option (Bool × Value)) : FuncId → List Value → Option (Bool × Value) := fun id args => cond (Nat.beq id i) (F args) (G id args)

theorem noFnsOK {P : Program} : PureFns P noFns := fun _ _ _ h => by cases h
theorem ifIdOK {P : Program} {i : Nat} {F : Ph} {G : FuncId → List Value → Option (Bool × Value)} (hF : PhOK P i F) (hG : PureFns P G) : PureFns P (ifId i F G) := by
  intro id args v h
  unfold ifId at h
  cases hb : Nat.beq id i with
  | true =>
    rw [hb] at h
    have := Nat.eq_of_beq_eq_true hb
    subst this
    exact hF.ok args v h
  | false =>
    rw [hb] at h
    exact hG id args v h

theorem setting_pure {P : Program} {T : Tab} {Φp : FuncId → List Value → Option (Bool × Value)} (hm : P.follows .mixedOrders = true) (hT : TabOK P T) (hΦ : PureFns P Φp) : Setting P T (pureFns Φp) true :=
  ⟨hm, fun _ => pureF_pure Φp, hT, fnsOK_pure hΦ⟩

/-! ### Steps as trees -/
theorem nC {σ ρ : Type} {c g : Bool} {s : σ} {A B : Option (Bool × σ)} {A' B' : Option ρ} {X : Option ρ} (h : A = some (g, s) → A' = X) (h' : B = some (g, s) → B' = X) : cond c A B = some (g, s) → cond c A' B' = X := by cases c <;> assumption
theorem nN {σ ρ : Type} {g : Bool} {s t : σ} {kn kx : σ → Option ρ} : some (true, t) = some (g, s) → kn t = cond g (kn s) (kx s) := by intro h; cases h; rfl
theorem nX {σ ρ : Type} {g : Bool} {s t : σ} {kn kx : σ → Option ρ} : some (false, t) = some (g, s) → kx t = cond g (kn s) (kx s) := by intro h; cases h; rfl
theorem nD {σ ρ : Type} {g : Bool} {s : σ} {A X : Option ρ} : (none : Option (Bool × σ)) = some (g, s) → A = X := by intro h; cases h
end Go.Lan
