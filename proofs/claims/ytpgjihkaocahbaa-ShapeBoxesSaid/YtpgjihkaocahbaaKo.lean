/- Loops: what they come to, by an invariant. Library functions without a body. -/
import Derived.Test.YtpgjihkaocahbaaKn
namespace Go.Lan
open Go.RowKit

/-- e2 says no more than e1. -/
def weakE (e1 e2 : Env) : Prop := ∀ d, getE e2 d = getE e1 d ∨ ∃ k a b, getE e2 d = .complex k a b

theorem FR.weak {tn : Nat} {β : List (Option Nat)} {e1 e2 : Env} {a : Act} (h : FR tn β (getE e1) a) (hw : weakE e1 e2) : FR tn β (getE e2) a :=
  ⟨fun d => by
    rcases hw d with e | ⟨k, x, y, e⟩
    · rw [e]; exact h.reg d
    · rw [e]; exact .unk _ _ _ _, h.size, h.defers⟩

def keysIn (ks : List Nat) : Env → Bool
  | [] => true
  | (k, _) :: e => memN ks k && keysIn ks e

theorem getE_out {ks : List Nat} {d : Nat} (hd : memN ks d = false) : ∀ {e : Env}, keysIn ks e = true → getE e d = .tuple #[]
  | [], _ => rfl
  | (k, v) :: e, h => by
    simp only [keysIn, Bool.and_eq_true] at h
    rw [getE_cons, if_neg, getE_out hd h.2]
    intro e'
    subst e'
    rw [h.1] at hd
    cases hd

/-- At each of these slots. -/
def weakAt (e1 e2 : Env) : List Nat → Prop
  | [] => True
  | d :: l => (getE e2 d = getE e1 d ∨ ∃ k a b, getE e2 d = .complex k a b) ∧ weakAt e1 e2 l

theorem weakAt_mem {e1 e2 : Env} : ∀ {l : List Nat}, weakAt e1 e2 l → ∀ d ∈ l, getE e2 d = getE e1 d ∨ ∃ k a b, getE e2 d = .complex k a b
  | [], _, d, h => by simp at h
  | x :: l, h, d, hd => by
    rcases List.mem_cons.1 hd with rfl | hd
    · exact h.1
    · exact weakAt_mem h.2 d hd

theorem weakE_of {e1 e2 : Env} (ks : List Nat) (h1 : keysIn ks e1 = true) (h2 : keysIn ks e2 = true) (h : weakAt e1 e2 ks) : weakE e1 e2 := fun d => by
  cases hd : memN ks d with
  | false => left; rw [getE_out hd h1, getE_out hd h2]
  | true => exact weakAt_mem h d ((memN_iff _ _).1 hd)

section
variable {P : Program} {T : Tab} {Φ : Fns} {pc : Bool} {Λ : Loops} {tn : Nat}

theorem loopSem_inv (S : Setting P T Φ pc) {c : Code} (hl : LoopsOK P tn Λ (loopsOf c)) {X : Type} (I : X → Prop) (E : X → Env) (H : X → Hp) (x : X → Nat) (E' : X → Env) (H' : X → Hp) (μ : X → Nat)
    (round : ∀ s, I s → (∃ n s' e1, ev T M0 Φ Λ pc tn n c (E s) (H s) (fun o e h => some (o, e, h)) = some (.norm, e1, H s') ∧ weakE e1 (E s') ∧ I s' ∧ μ s' < μ s ∧ x s' = x s ∧ E' s' = E' s ∧ H' s' = H' s) ∨
      (∃ n e1, ev T M0 Φ Λ pc tn n c (E s) (H s) (fun o e h => some (o, e, h)) = some (.exit (x s), e1, H' s) ∧ weakE e1 (E' s))) :
    ∀ (m : Nat) (s : X), μ s ≤ m → I s → LoopSem P tn c (E s) (H s) (x s) (E' s) (H' s) := by
  have key : ∀ (m : Nat) (s : X), μ s < m → I s → LoopSem P tn c (E s) (H s) (x s) (E' s) (H' s) := by
    intro m
    induction m with
    | zero => intro s h; omega
    | succ m ih =>
      intro s hm hI w0 β0 β a w Q hf hr hk
      refine loopWp_round ?_
      rcases round s hI with ⟨n, s', e1, hev, hw, hI', hlt, q1, q2, q3⟩ | ⟨n, e1, hev, hw⟩
      · refine (ev_sound S (w0 := w0) (β0 := β0) (tn := tn) (Λ := Λ) n).1 c _ _ _ _ β a w hev hl hf hr fun γ o e' h' a' w' hk' hf' hr' => ?_
        cases hk'
        refine ih s' (by omega) hI' w0 β0 _ a' w' Q (hf'.weak hw) hr' fun γ' a'' w'' hf'' hr'' => ?_
        rw [q1]
        rw [q2, List.append_assoc] at hf''
        rw [q3, List.append_assoc] at hr''
        exact hk _ a'' w'' hf'' hr''
      · refine (ev_sound S (w0 := w0) (β0 := β0) (tn := tn) (Λ := Λ) n).1 c _ _ _ _ β a w hev hl hf hr fun γ o e' h' a' w' hk' hf' hr' => ?_
        cases hk'
        exact hk γ a' w' (hf'.weak hw) hr'
  exact fun m s hm => key (m + 1) s (by omega)

/-- A library function without a body: the model's own entry. -/
theorem pureOK_extern {f : FuncId} {args : List Value} {v : Value} (ha : args.all exV = true) (hv : npR v = true) (h : ∀ w, (callFunc f ⟨args⟩).run P w = .ok (.value v) w) : PureOK P f args v := by
  refine ⟨fun w args' hdr o a K Q hk => ?_⟩
  have hn : args.all npV = true := exs_np ha
  rw [exs_eq ha (DRL.of_np hn hdr), h w]
  exact hk v w ⟨npR_rel v hv, Below.refl _ _⟩

end
end Go.Lan

/-! ### A function's ways, and what they come to -/
namespace Go.Lan
theorem pC {α β : Type} {k : α → β} {c : Bool} {A B : β} {x y : α} (h : A = k x) (h' : B = k y) : cond c A B = k (cond c x y) := by cases c <;> assumption
theorem kC {α β : Type} {k : α → β} {c p q : Bool} {A B : β} {x y : α} (h : p = true → A = k x) (h' : q = true → B = k y) : cond c p q = true → cond c A B = k (cond c x y) := by cases c <;> assumption
theorem kL {α β : Type} {k : α → β} {c p : Bool} {A N : β} {x : α} (h : p = true → A = k x) : cond c p false = true → cond c A N = k x := by
  cases c
  · intro e; cases e
  · exact h
theorem kR {α β : Type} {k : α → β} {c q : Bool} {B N : β} {y : α} (h : q = true → B = k y) : cond c false q = true → cond c N B = k y := by
  cases c
  · exact h
  · intro e; cases e
theorem kN {α β : Type} {k : α → β} {N : β} {y : α} : false = true → N = k y := fun e => by cases e
end Go.Lan
namespace Go.Lan
theorem three3 (n : String) (x y c : Int) (h : c ≤ 1) {P : Program} {w : World} : (Extern.MathBitsCarry.three n #[.int .u64 x, .int .u64 y, .int .u64 c]).run P w = .ok (x.toNat, y.toNat, c.toNat) w := by
  have h2 : ¬ c.toNat > 1 := by omega
  show ((do
    let c ← (fun (c : Int) => c.toNat) <$> asInt (.int .u64 c)
    if c > 1 then unsupported (.noEntry ("extern/math/bits." ++ n ++ ": a carry that is neither 0 nor 1"))
    pure ((← asInt (.int .u64 x)).toNat, (← asInt (.int .u64 y)).toNat, c)) : Sem (Nat × Nat × Nat)).run P w = _
  simp [asInt, asIntOf, h2]
end Go.Lan
