/- What the interpreter computes, a call computes. -/
import Derived.Test.YtpgjihkaocahbaaKp
import Derived.Below
namespace Go.Lan
open Go.RowKit

def Out.exit' : Out → Exit
  | .norm => .normal
  | .exit id => .exit id
  | .ret => .ret

/-- A loop, from its inside. -/
def loopWp (P : Program) (c : Code) (Q : Exit → Act → World → Prop) (a : Act) (w : World) : Prop :=
  ∀ (b : Frame) (k : List Item) (cs : List Frame), ∃ e a' w', Q e a' w' ∧ Arrives P (lone (b.at a (.code c :: .inLoop c :: k)) cs w) b k cs e a' w'

theorem wp_of_loopWp {P : Program} {c : Code} {Q : Exit → Act → World → Prop} {a : Act} {w : World} (h : loopWp P c Q a w) : (Code.loop c).wp P Q a w := fun b k cs => by
  obtain ⟨e, a', w', hq, harr⟩ := h b k cs
  exact ⟨e, a', w', hq, .of_steps (.one step_loop) harr⟩

theorem loopWp_round {P : Program} {c : Code} {Q : Exit → Act → World → Prop} {a : Act} {w : World} (h : c.wp P (Exit.then (loopWp P c Q) Q) a w) : loopWp P c Q a w := fun b k cs => by
  obtain ⟨e, a₁, w₁, hq, harr⟩ := h b (.inLoop c :: k) cs
  cases e with
  | normal =>
    obtain ⟨e₂, a₂, w₂, hq₂, harr₂⟩ := hq b k cs
    exact ⟨e₂, a₂, w₂, hq₂, .of_steps (Steps.trans harr (.one step_inLoop)) harr₂⟩
  | exit id => exact ⟨_, a₁, w₁, hq, .pass (x := .inLoop c) rfl (fun _ _ => .inl (by simp)) harr⟩
  | goto l => exact ⟨_, a₁, w₁, hq, .pass (x := .inLoop c) rfl (fun _ _ => .inl (by simp)) harr⟩
  | ret => exact ⟨_, a₁, w₁, hq, .pass (x := .inLoop c) rfl (fun _ _ => .inl (by simp)) harr⟩
  | panic ch => exact ⟨_, a₁, w₁, hq, .pass (x := .inLoop c) rfl (fun _ _ => .inl (by simp)) harr⟩
  | outgrown => exact ⟨_, a₁, w₁, hq, .pass (x := .inLoop c) rfl (fun _ _ => .inl (by simp)) harr⟩

section
variable {P : Program} {T : Tab} {Φ : Fns} {pc : Bool}

/-- What must be known of the program. -/
structure Setting (P : Program) (T : Tab) (Φ : Fns) (pc : Bool) : Prop where
  mixed : P.follows .mixedOrders = true
  pure : pc = true → PureF Φ
  tab : TabOK P T
  fns : FnsOK P Φ

/-- What a loop comes to. -/
def LoopSem (P : Program) (tn : Nat) (c : Code) (e : Env) (h : Hp) (x : Nat) (e' : Env) (h' : Hp) : Prop :=
  ∀ (w0 : World) (β0 β : List (Option Nat)) (a : Act) (w : World) (Q : Exit → Act → World → Prop), FR tn β (getE e) a → Rel w0 β0 β h w →
    (∀ γ a' w', FR tn (β ++ γ) (getE e') a' → Rel w0 β0 (β ++ γ) h' w' → Q (.exit x) a' w') → loopWp P c Q a w

def LoopOK (P : Program) (tn : Nat) (Λ : Loops) (c : Code) : Prop :=
  ∀ e h x e' h', Λ (keyOf c) e h = some (true, x, e', h') → LoopSem P tn c e h x e' h'

def LoopsOK (P : Program) (tn : Nat) (Λ : Loops) : List Code → Prop
  | [] => True
  | c :: l => LoopOK P tn Λ c ∧ LoopsOK P tn Λ l

theorem loopsOK_app {tn : Nat} {Λ : Loops} : ∀ {l m : List Code}, LoopsOK P tn Λ (appL l m) → LoopsOK P tn Λ l ∧ LoopsOK P tn Λ m
  | [], _, h => ⟨trivial, h⟩
  | _ :: _, _, h => ⟨⟨h.1, (loopsOK_app h.2).1⟩, (loopsOK_app h.2).2⟩

theorem noLoopsOK {tn : Nat} : ∀ l : List Code, LoopsOK P tn noLoops l
  | [] => trivial
  | _ :: l => ⟨fun _ _ _ _ _ h => (by cases h), noLoopsOK l⟩

theorem ev_sound (S : Setting P T Φ pc) {w0 : World} {β0 : List (Option Nat)} {tn : Nat} {Λ : Loops} {res : Type} {r : res} : ∀ n : Nat,
    (∀ (c : Code) (e : Env) (h : Hp) (k : Out → Env → Hp → Option res) (Q : Exit → Act → World → Prop) (β : List (Option Nat)) (a : Act) (w : World), ev T M0 Φ Λ pc tn n c e h k = some r → LoopsOK P tn Λ (loopsOf c) → FR tn β (getE e) a → Rel w0 β0 β h w →
      (∀ γ o e' h' a' w', k o e' h' = some r → FR tn (β ++ γ) (getE e') a' → Rel w0 β0 (β ++ γ) h' w' → Q o.exit' a' w') → c.wp P Q a w) ∧
    (∀ (c : Code) (e : Env) (h : Hp) (k : Out → Env → Hp → Option res) (Q : Exit → Act → World → Prop) (β : List (Option Nat)) (a : Act) (w : World), ev T M0 Φ Λ pc tn n (.loop c) e h k = some r → LoopsOK P tn Λ (c :: loopsOf c) → FR tn β (getE e) a → Rel w0 β0 β h w →
      (∀ γ o e' h' a' w', k o e' h' = some r → FR tn (β ++ γ) (getE e') a' → Rel w0 β0 (β ++ γ) h' w' → Q o.exit' a' w') → loopWp P c Q a w)
  | 0 => ⟨fun c e h k Q β a w hev => by simp [ev] at hev, fun c e h k Q β a w hev => by simp [ev] at hev⟩
  | n + 1 => by
    obtain ⟨ih, ihl⟩ := ev_sound S (w0 := w0) (β0 := β0) (tn := tn) (Λ := Λ) (r := r) n
    have loop : ∀ (c : Code) (e : Env) (h : Hp) (k : Out → Env → Hp → Option res) (Q : Exit → Act → World → Prop) (β : List (Option Nat)) (a : Act) (w : World), ev T M0 Φ Λ pc tn (n + 1) (.loop c) e h k = some r → LoopsOK P tn Λ (c :: loopsOf c) → FR tn β (getE e) a → Rel w0 β0 β h w →
      (∀ γ o e' h' a' w', k o e' h' = some r → FR tn (β ++ γ) (getE e') a' → Rel w0 β0 (β ++ γ) h' w' → Q o.exit' a' w') → loopWp P c Q a w := by
      intro c e h k Q β a w hev hl hf hr hk
      simp only [ev] at hev
      split at hev
      · rename_i g x e' h' hΛ
        obtain ⟨rfl, hk'⟩ := cond_some hev
        exact hl.1 e h x e' h' hΛ w0 β0 β a w Q hf hr fun γ a' w' hf' hr' => hk γ (.exit x) e' h' a' w' hk' hf' hr'
      refine loopWp_round (ih c e h _ _ β a w hev hl.2 hf hr fun γ o e' h' a' w' hk' hf' hr' => ?_)
      cases o with
      | norm =>
        exact ihl c e' h' k Q _ a' w' hk' hl hf' hr' fun γ' o e'' h'' a'' w'' hk'' hf'' hr'' => by
          rw [List.append_assoc] at hf'' hr''
          exact hk _ o e'' h'' a'' w'' hk'' hf'' hr''
      | exit id => exact hk γ (.exit id) e' h' a' w' hk' hf' hr'
      | ret => exact hk γ .ret e' h' a' w' hk' hf' hr'
    refine ⟨fun c e h k Q β a w hev hl hf hr hk => ?_, loop⟩
    cases c with
    | skip =>
      simp only [ev] at hev
      exact wp_skip (hk [] .norm e h a w hev (by simpa using hf) (by simpa using hr))
    | region id ops d =>
      simp only [ev] at hev
      split at hev
      · rename_i hok
        exact region_sound S.mixed S.pure S.tab S.fns hok hev hf hr fun γ e' h' a' w' hk' hf' hr' => hk γ .norm e' h' a' w' hk' hf' hr'
      · cases hev
    | seq x y =>
      simp only [ev] at hev
      obtain ⟨hl1, hl2⟩ := loopsOK_app hl
      refine wp_seq (ih x e h _ _ β a w hev hl1 hf hr fun γ o e' h' a' w' hk' hf' hr' => ?_)
      cases o with
      | norm =>
        exact ih y e' h' k Q _ a' w' hk' hl2 hf' hr' fun γ' o e'' h'' a'' w'' hk'' hf'' hr'' => by
          rw [List.append_assoc] at hf'' hr''
          exact hk _ o e'' h'' a'' w'' hk'' hf'' hr''
      | exit id => exact hk γ (.exit id) e' h' a' w' hk' hf' hr'
      | ret => exact hk γ .ret e' h' a' w' hk' hf' hr'
    | cond x y z =>
      simp only [ev] at hev
      split at hev
      · rename_i t ht
        have hx := opF_rel hf x
        rw [← opv_eq, ht] at hx
        generalize hv : a.eval x = v at hx
        cases hx
        refine wp_cond_split hv (fun hc => ?_) (fun hc => ?_)
        · subst hc
          exact ih y _ h k Q β a w hev (loopsOK_app hl).1 (by rw [getE_refine ht]; exact hf) hr hk
        · subst hc
          exact ih z _ h k Q β a w hev (loopsOK_app hl).2 (by rw [getE_refine ht]; exact hf) hr hk
      · cases hev
    | block id x =>
      simp only [ev] at hev
      refine wp_block (ih x e h _ _ β a w hev hl hf hr fun γ o e' h' a' w' hk' hf' hr' => ?_)
      cases o with
      | norm => exact hk γ .norm e' h' a' w' hk' hf' hr'
      | exit j =>
        dsimp only at hk'
        split at hk'
        · rename_i hj
          have : j = id := Nat.eq_of_beq_eq_true hj
          simp only [Out.exit', Exit.inBlock, this, if_true]
          exact hk γ .norm e' h' a' w' hk' hf' hr'
        · rename_i hj
          have : j ≠ id := fun e => by rw [e] at hj; simp at hj
          simp only [Out.exit', Exit.inBlock, this, if_false]
          exact hk γ (.exit j) e' h' a' w' hk' hf' hr'
      | ret => exact hk γ .ret e' h' a' w' hk' hf' hr'
    | loop x => exact wp_of_loopWp (loop x e h k Q β a w hev hl hf hr hk)
    | exit id =>
      simp only [ev] at hev
      exact wp_exit (hk [] (.exit id) e h a w hev (by simpa using hf) (by simpa using hr))
    | ret =>
      simp only [ev] at hev
      exact wp_ret (hk [] .ret e h a w hev (by simpa using hf) (by simpa using hr))
    | _ => simp [ev] at hev

/-! ### Values without memory -/
def npV : Value → Bool
  | .agg ⟨l⟩ => l.all plainV
  | v => plainV v
def npR : Value → Bool
  | .tuple ⟨l⟩ => l.all npV
  | v => npV v

/-- A value that stands for itself alone. -/
def exV : Value → Bool
  | .float _ n => !Nat.beq n nanW
  | v => plainV v
theorem ex_plain {v : Value} (h : exV v = true) : plainV v = true := by
  unfold exV at h
  split at h
  · rfl
  · exact h
theorem exs_plain : ∀ {l : List Value}, l.all exV = true → l.all plainV = true
  | [], _ => rfl
  | v :: l, h => by
    simp only [List.all_cons, Bool.and_eq_true] at h ⊢
    exact ⟨ex_plain h.1, exs_plain h.2⟩
theorem ex_eq {β : List (Option Nat)} {v v' : Value} (h : exV v = true) (hr : VR β v v') : v' = v := by
  cases hr with
  | func f h1 h2 => cases h1 <;> cases h2 <;> first | rfl | simp [exV, plainV] at h
  | nan _ => simp [exV, nanW] at h
  | _ => first | rfl | simp [exV, plainV] at h
theorem exs_eq {β : List (Option Nat)} : ∀ {l l' : List Value}, l.all exV = true → VRL β l l' → l' = l
  | _, _, _, .nil => rfl
  | _, _, h, .cons hv ht => by
    simp only [List.all_cons, Bool.and_eq_true] at h
    rw [ex_eq h.1 hv, exs_eq h.2 ht]

/-- Of a value without memory it doesn't matter what blocks stand for. -/
theorem plain_to {β γ : List (Option Nat)} {v v' : Value} (h : plainV v = true) (hr : VR β v v') : VR γ v v' := by
  cases hr with
  | func f h1 h2 => cases h1 <;> cases h2 <;> first | exact .func f .nil .nil | simp [plainV] at h
  | _ => first | (constructor; done) | (constructor; assumption) | simp [plainV] at h
theorem plains_to {β γ : List (Option Nat)} : ∀ {l l' : List Value}, l.all plainV = true → VRL β l l' → VRL γ l l'
  | _, _, _, .nil => .nil
  | _, _, h, .cons hv ht => by
    simp only [List.all_cons, Bool.and_eq_true] at h
    exact .cons (plain_to h.1 hv) (plains_to h.2 ht)
theorem npV_to {β γ : List (Option Nat)} {v v' : Value} (h : npV v = true) (hr : VR β v v') : VR γ v v' := by
  cases hr with
  | agg hl => exact .agg (plains_to h hl)
  | func f h1 h2 => exact plain_to h (.func f h1 h2)
  | _ => first | (constructor; done) | (constructor; assumption) | simp [npV, plainV] at h
theorem npVs_to {β γ : List (Option Nat)} : ∀ {l l' : List Value}, l.all npV = true → VRL β l l' → VRL γ l l'
  | _, _, _, .nil => .nil
  | _, _, h, .cons hv ht => by
    simp only [List.all_cons, Bool.and_eq_true] at h
    exact .cons (npV_to h.1 hv) (npVs_to h.2 ht)
theorem npR_to {β γ : List (Option Nat)} {v v' : Value} (h : npR v = true) (hr : VR β v v') : VR γ v v' := by
  cases hr with
  | tuple hl => exact .tuple (npVs_to h hl)
  | agg hl => exact npV_to h (.agg hl)
  | func f h1 h2 => exact plain_to h (.func f h1 h2)
  | _ => first | (constructor; done) | (constructor; assumption) | simp [npR, npV, plainV] at h
theorem npV_rel {β : List (Option Nat)} (v : Value) (h : npV v = true) : VR β v v := by
  unfold npV at h
  split at h
  · exact .agg (plainL_rel _ h)
  · exact plainV_rel v h
theorem npVs_rel {β : List (Option Nat)} : ∀ l : List Value, l.all npV = true → VRL β l l
  | [], _ => .nil
  | v :: l, h => by
    simp only [List.all_cons, Bool.and_eq_true] at h
    exact .cons (npV_rel v h.1) (npVs_rel l h.2)
theorem npR_rel {β : List (Option Nat)} (v : Value) (h : npR v = true) : VR β v v := by
  unfold npR at h
  split at h
  · exact .tuple (npVs_rel _ h)
  · exact npV_rel v h

theorem exs_np : ∀ {l : List Value}, l.all exV = true → l.all npV = true
  | [], _ => rfl
  | v :: l, h => by
    simp only [List.all_cons, Bool.and_eq_true] at h ⊢
    have h1 := ex_plain h.1
    refine ⟨?_, exs_np h.2⟩
    unfold npV
    split
    · simp [plainV] at h1
    · exact h1

/-! ### Functions that turn no memory but their own -/
/-- A slice with what it holds. -/
def slV : Value → Bool
  | .tuple ⟨.int .i64 (.ofNat _) :: .int .i64 (.ofNat _) :: .int .i64 (.ofNat _) :: cells⟩ => cells.all exV
  | _ => false

def dpV (v : Value) : Bool := npV v || slV v

/-- What the machine has for such a value. -/
inductive DR (w : World) : Value → Value → Prop
  | np {v v' : Value} (h : npV v = true) (hr : VR [] v v') : DR w v v'
  | sl {t : TypeId} {n c b : Nat} {cells : List Value} (h : w.heap[b]? = some (.cells ⟨cells⟩ t (0, 0))) (hc : cells.all exV = true) : DR w (.tuple ⟨.int .i64 (t : Nat) :: .int .i64 n :: .int .i64 c :: cells⟩) (.slice (some ⟨b, 0, none⟩) n c)

inductive DRL (w : World) : List Value → List Value → Prop
  | nil : DRL w [] []
  | cons {v v' : Value} {l l' : List Value} (h : DR w v v') (t : DRL w l l') : DRL w (v :: l) (v' :: l')

theorem DRL.np {w : World} : ∀ {l l' : List Value}, l.all npV = true → VRL [] l l' → DRL w l l'
  | [], _, _, .nil => .nil
  | v :: l, _, h, .cons hv ht => by
    simp only [List.all_cons, Bool.and_eq_true] at h
    exact .cons (.np h.1 hv) (.np h.2 ht)

theorem DRL.of_np {w : World} : ∀ {l l' : List Value}, l.all npV = true → DRL w l l' → VRL [] l l'
  | _, _, _, .nil => .nil
  | _, _, h, .cons (.np _ hv) t => by
    simp only [List.all_cons, Bool.and_eq_true] at h
    exact .cons hv (DRL.of_np h.2 t)
  | _, _, h, .cons (.sl _ _) t => by simp [npV, plainV] at h

/-- The call hands back just this, and leaves all memory that was there as it was. -/
structure PureOK (P : Program) (f : FuncId) (args : List Value) (v : Value) : Prop where
  call : ∀ w args', DRL w args args' → CallOK P f ⟨args'⟩ w fun v' w' => VR [] v v' ∧ Below w.heap.size w w'

def PureFns (P : Program) (Φ : FuncId → List Value → Option (Bool × Value)) : Prop :=
  ∀ f args v, Φ f args = some (true, v) → args.all dpV = true ∧ npR v = true ∧ PureOK P f args v

theorem Rel.below {w w' : World} {β : List (Option Nat)} {h : Hp} (r : Rel w β β h w) (b : Below w.heap.size w w') : Rel w β β h w' :=
  ⟨r.len, r.inj, fun i cells t k hi hk => by
    obtain ⟨c, h1, h2⟩ := r.blk i cells t k hi hk
    exact ⟨c, by rw [b.block k (r.bound k (List.mem_of_getElem? hk))]; exact h1, h2⟩, r.fresh, fun k hk _ => b.block k hk, b.size, b.os, b.tape, b.output⟩

theorem deep1_rel {w0 w : World} {β0 β : List (Option Nat)} {h : Hp} (r : Rel w0 β0 β h w) {v v' : Value} (hd : dpV (deep1 h v) = true) (hv : VR β v v') : DR w (deep1 h v) v' := by
  have plain : ∀ u, npV u = true → VR β u v' → DR w u v' := fun u h1 h2 => .np h1 (npV_to h1 h2)
  unfold deep1 at hd ⊢
  split
  · rename_i b n c
    split
    · rename_i cells t hb
      simp only [hb] at hd
      have hc : cells.all exV = true := by simpa [dpV, npV, plainV, slV] using hd
      cases hv with
      | slice o l c hg =>
        rw [nth_eq] at hb
        obtain ⟨cells', h1, h2⟩ := r.blk _ _ _ _ hb hg
        rw [exs_eq hc h2] at h1
        exact .sl h1 hc
    · rename_i hb
      simp only [hb] at hd
      simp [dpV, npV, plainV, slV] at hd
  · simp [dpV, npV, plainV, slV] at hd
  · rename_i hn ht
    have hd' : dpV v = true := by
      split at hd
      · exact absurd rfl (hn _ _ _)
      · exact absurd rfl (ht _)
      · exact hd
    simp only [dpV, Bool.or_eq_true] at hd'
    rcases hd' with h1 | h1
    · exact plain v h1 hv
    · unfold slV at h1
      split at h1
      · exact absurd rfl (ht _)
      · cases h1

theorem fnsOK_pure {Φp : FuncId → List Value → Option (Bool × Value)} (hΦ : PureFns P Φp) : FnsOK P (pureFns Φp) := by
  intro f args h v h' hf β w args' hr hargs
  unfold pureFns at hf
  split at hf
  · rename_i g u hu
    cases hf
    obtain ⟨h1, h2, h3⟩ := hΦ _ _ _ hu
    have hdr : ∀ {l l' : List Value}, (deepA h l).all dpV = true → VRL β l l' → DRL w (deepA h l) l' := by
      intro l l' ha hv
      induction hv using VRL.rec (motive_1 := fun _ _ _ => True) with
      | nil => exact .nil
      | cons h4 h5 _ ih =>
        simp only [deepA, List.all_cons, Bool.and_eq_true] at ha
        exact .cons (deep1_rel hr ha.1 h4) (ih ha.2)
      | _ => trivial
    refine (h3.call w _ (hdr h1 hargs)).mono fun v' w' ⟨hv, hb⟩ => ⟨[], ?_, ?_⟩
    · rw [List.append_nil]; exact hr.below hb
    · exact npR_to h2 hv
  · cases hf

theorem deepA_congr {h h2 : Hp} : ∀ {l : List Value}, (∀ b ∈ blks l, nth h2 b = nth h b) → deepA h2 l = deepA h l
  | [], _ => rfl
  | v :: l, hb => by
    simp only [blks, appL_eq, List.mem_append] at hb
    simp only [deepA, deepA_congr fun b hm => hb b (.inr hm)]
    congr 1
    unfold deep1
    split
    · rename_i b n c
      rw [hb b (.inl (by simp [blks1]))]
    · rfl
    · rfl

theorem pureF_pure (Φp : FuncId → List Value → Option (Bool × Value)) : PureF (pureFns Φp) := by
  intro f args h h2 hb
  unfold pureFns
  rw [deepA_congr hb]
  cases Φp f (deepA h args) with
  | none => rfl
  | some p => rfl

theorem getE_args : ∀ (args : List Value) (i d : Nat), getE (argsE i args) d = if i ≤ d then (args[d - i]?).getD undef else undef
  | [], i, d => by simp [argsE, getE, undef]
  | v :: args, i, d => by
    rw [argsE, getE_cons, getE_args args (i + 1) d]
    by_cases h1 : i = d
    · subst h1; simp
    · rw [if_neg h1]
      by_cases h2 : i ≤ d
      · rw [if_pos h2, if_pos (by omega), show d - i = (d - (i + 1)) + 1 by omega]; simp
      · rw [if_neg h2, if_neg (by omega)]

theorem resV_sound (hT : TabOK P T) {tn : Nat} {β β0 : List (Option Nat)} {w0 w : World} {e : Env} {h : Hp} {a : Act} (hf : FR tn β (getE e) a) (hr : Rel w0 β0 β h w) : ∀ (l : List ResultVar) (vs : List Value), resVs T e h l = some vs →
    ∃ vs', ((l.mapM fun (r : ResultVar) => (match r with
      | .tmp t => pure (a.tmps.getD t undef)
      | .cell x t => do loadVar t (← asAddr (a.tmps.getD x undef)) : Sem Value)).run P w) = .ok vs' w ∧ VRL β vs vs'
  | [], vs, hv => by
    simp only [resVs, Option.some.injEq] at hv
    subst hv
    exact ⟨[], rfl, .nil⟩
  | r :: l, vs, hv => by
    simp only [resVs] at hv
    split at hv
    · rename_i v h1
      split at hv
      · rename_i us h2
        cases hv
        obtain ⟨us', e1, e2⟩ := resV_sound hT hf hr l us h2
        have hone : ∃ v', ((match r with
            | .tmp t => pure (a.tmps.getD t undef)
            | .cell x t => do loadVar t (← asAddr (a.tmps.getD x undef)) : Sem Value).run P w) = .ok v' w ∧ VR β v v' := by
          cases r with
          | tmp t =>
            simp only [resV, Option.some.injEq] at h1
            subst h1
            exact ⟨_, rfl, hf.reg t⟩
          | cell x t =>
            simp only [resV] at h1
            split at h1
            · rename_i ti ht
              split at h1
              · rename_i b off hx
                split at h1
                · rename_i cells t' hb
                  obtain ⟨info, d, z, hi, hd, hz, hs, hzl, hk, _, hpl⟩ := hT _ _ ht
                  have hxr := hf.reg x
                  rw [hx] at hxr
                  obtain ⟨g, cells', e, _, hg, hc⟩ := ptr_block hr hxr hb
                  obtain ⟨v', q1, q2⟩ := load_run hi hd hs hk hg hc h1
                  exact ⟨v', by simp only [e, asAddr]; simp [q1], q2⟩
                · cases h1
              · cases h1
            · cases h1
        obtain ⟨v', f1, f2⟩ := hone
        refine ⟨v' :: us', ?_, .cons f2 e2⟩
        rw [List.mapM_cons, Sem.run_bind, f1, Result.andThen_ok, Sem.run_bind, e1]
        rfl
      · cases hv
    · cases hv

theorem results_sound (hT : TabOK P T) {tn : Nat} {β β0 : List (Option Nat)} {w0 w : World} {e : Env} {h : Hp} {a : Act} (hf : FR tn β (getE e) a) (hr : Rel w0 β0 β h w) (fn : Func) (vs : List Value) (hv : resVs T e h fn.results.toList = some vs) :
    ∃ v', (results fn a.tmps).run P w = .ok v' w ∧ VR β (oneOf vs) v' := by
  obtain ⟨vs', h1, h2⟩ := resV_sound hT hf hr _ _ hv
  have hm : (fn.results.mapM fun (r : ResultVar) => (match r with
      | .tmp t => pure (a.tmps.getD t undef)
      | .cell x t => do loadVar t (← asAddr (a.tmps.getD x undef)) : Sem Value)).run P w = .ok ⟨vs'⟩ w := by
    rw [Array.mapM_eq_mapM_toList, Sem.run_map, h1]
    rfl
  refine ⟨if h : (⟨vs'⟩ : Array Value).size = 1 then (⟨vs'⟩ : Array Value)[0] else .tuple ⟨vs'⟩, ?_, ?_⟩
  · unfold results
    rw [Sem.run_bind]
    exact congrArg (fun (r : Result (Array Value)) => r.andThen fun a w' => Sem.run P (pure (if h : a.size = 1 then a[0] else Value.tuple a)) w') hm
  · cases h2 with
    | nil => exact .tuple .nil
    | cons q1 q2 =>
      cases q2 with
      | nil => simpa [oneOf] using q1
      | cons q3 q4 =>
        rw [dif_neg (by simp)]
        exact .tuple (.cons q1 (.cons q3 q4))

/-- A call as any operation meets it. -/
theorem callOK_of_calls {f : FuncId} {fn : Func} {args : Array Value} {w : World} {R : Value → World → Prop} (hf : P.funcs[f]? = some fn) (hb : fn.body.isNone = false) (hn : (fn.name == "runtime.NumGoroutine") = false)
    (h : Calls P f args w fun e w' => ∃ v, e = .returned v ∧ R v w') : CallOK P f args w R := by
  intro o a K Q hk
  have hrun : (callFunc f args).run P w = .ok (.enter f args) w := by
    simp only [callFunc, Sem.run_bind, run_program, Result.andThen_ok, hf, hn, hb, Bool.false_eq_true, if_false]
    rfl
  rw [hrun, Oper.upon_enter]
  refine h.mono fun e w' ⟨v, he, hv⟩ => ?_
  subst he
  exact hk v w' hv

/-- The arguments in the machine, and the blocks that they hold. -/
theorem openA_rel {w : World} : ∀ (args args' : List Value) (k : Nat) (β1 : List (Option Nat)), args.all dpV = true → DRL w args args' → β1.length = k →
    ∃ β : List Nat, β.length = (openA k args).2.length ∧ (∀ γ, VRL (β1 ++ β.map some ++ γ) (openA k args).1 args') ∧
      ∀ (i b : Nat) (cells : List Value) (t : TypeId), (openA k args).2[i]? = some (cells, t) → β[i]? = some b → w.heap[b]? = some (.cells ⟨cells⟩ t (0, 0)) ∧ cells.all exV = true
  | [], _, k, β1, _, .nil, _ => ⟨[], rfl, fun _ => .nil, fun i b cells t h => by simp [openA] at h⟩
  | v :: args, _, k, β1, ha, .cons hv ht, hk => by
    simp only [List.all_cons, Bool.and_eq_true] at ha
    cases hv with
    | np h hvr =>
      have e : openA k (v :: args) = (v :: (openA k args).1, (openA k args).2) := by
        rw [openA]
        intro t n c cells e
        subst e
        simp [npV, plainV] at h
      rw [e]
      obtain ⟨β, h1, h2, h3⟩ := openA_rel args _ k β1 ha.2 ht hk
      exact ⟨β, h1, fun γ => .cons (npV_to h hvr) (h2 γ), h3⟩
    | sl hb hc =>
      rename_i t n c b cells
      obtain ⟨β, h1, h2, h3⟩ := openA_rel args _ (k + 1) (β1 ++ [some b]) ha.2 ht (by simp [hk])
      refine ⟨b :: β, by simp [openA, h1], fun γ => ?_, fun i b' cells' t' hi hb' => ?_⟩
      · refine .cons (.slice 0 n c ?_) ?_
        · rw [List.append_assoc, List.getElem?_append_right (by omega)]
          simp [hk]
        · have := h2 γ
          simpa using this
      · cases i with
        | zero =>
          simp [openA] at hi hb'
          obtain ⟨rfl, rfl⟩ := hi
          subst hb'
          exact ⟨hb, hc⟩
        | succ i => exact h3 i b' cells' t' (by simpa [openA] using hi) (by simpa using hb')

theorem evP_calls (hm : P.follows .mixedOrders = true) (hT : TabOK P T) {Φp : FuncId → List Value → Option (Bool × Value)} (hΦ : PureFns P Φp) {f : FuncId} {fn : Func} (hf : P.funcs[f]? = some fn)
    {Λ : Loops} {c : Code} (hc : fn.body = some c) (hl : LoopsOK P fn.ntmps Λ (loopsOf c)) {n : Nat} {args : List Value} {v : Value} {h1 : Hp} (hargs : args.all dpV = true) (hone : (openA 0 args).2.length ≤ 1) (hv' : h1 = (openA 0 args).2) (hv : npR v = true) (hev : evP T M0 Φp Λ n fn args = some (v, h1)) : ∀ w args', DRL w args args' → Calls P f ⟨args'⟩ w fun e w' => ∃ v', e = .returned v' ∧ VR [] v v' ∧ Below w.heap.size w w' := by
  intro w args' hdr
  unfold evP at hev
  rw [hc] at hev
  dsimp only at hev
  have hone' : (openA 0 args).2.length ≤ 1 := hone
  obtain ⟨β, hβ1, hβ2, hβ3⟩ := openA_rel args args' 0 [] hargs hdr rfl
  generalize hoa : openA 0 args = oa at hev hβ1 hβ2 hβ3 hv' hone'
  obtain ⟨as, h0⟩ := oa
  dsimp only at hev hβ1 hβ2 hβ3 hv' hone'
  refine calls_of_wp hf hc ?_
  have S : Setting P T (pureFns Φp) true := ⟨hm, fun _ => pureF_pure Φp, hT, fnsOK_pure hΦ⟩
  refine (ev_sound S (w0 := w) (β0 := β.map some) (tn := fn.ntmps) n).1 c _ _ _ _ (β.map some) _ w hev hl ?_ ?_ ?_
  · have has : VRL (β.map some) as args' := by simpa using hβ2 []
    refine ⟨fun d => ?_, ?_, rfl⟩
    · rw [getE_args, if_pos (Nat.zero_le _), Nat.sub_zero, Array.getD_eq_getD_getElem?]
      have hlen := has.length
      rcases Nat.lt_or_ge d as.length with hlt | hge
      · rw [Array.getElem?_append_left (by simp [hlen]; exact hlt)]
        obtain ⟨x, hx1, hx2⟩ := has.get d (List.getElem?_eq_getElem hlt)
        simp only [List.getElem?_toArray, hx1, List.getElem?_eq_getElem hlt, Option.getD_some]
        exact hx2
      · rw [List.getElem?_eq_none hge, Array.getElem?_append_right (by simp [hlen]; exact hge), Array.getElem?_replicate]
        split <;> exact .tuple .nil
    · have hlen := has.length
      simp; omega
  · refine ⟨by simp [hβ1], ?_, ?_, fun _ hb => .inl hb, fun _ _ _ => rfl, Nat.le_refl _, rfl, rfl, rfl⟩
    · intro i j b hi hj
      have h1 := (List.getElem?_eq_some_iff.1 hi).1
      have h2 := (List.getElem?_eq_some_iff.1 hj).1
      simp at h1 h2
      omega
    · intro i cells t b hi hb
      obtain ⟨h1, h2⟩ := hβ3 i b cells t hi (by simpa using hb)
      exact ⟨cells, h1, plainL_rel _ (exs_plain h2)⟩
  · intro γ o e' h' a' w' hk hf' hr'
    have hfin : ∃ l, resVs T e' h' fn.results.toList = some l ∧ oneOf l = v ∧ takeL (lenL h0) h' = h0 ∧ (o = .norm ∨ o = .ret) := by
      cases o with
      | exit id => cases hk
      | norm =>
        dsimp only at hk
        split at hk
        · rename_i l hl
          simp only [Option.some.injEq, Prod.mk.injEq] at hk
          exact ⟨l, hl, hk.1, by rw [hk.2]; exact hv', .inl rfl⟩
        · cases hk
      | ret =>
        dsimp only at hk
        split at hk
        · rename_i l hl
          simp only [Option.some.injEq, Prod.mk.injEq] at hk
          exact ⟨l, hl, hk.1, by rw [hk.2]; exact hv', .inr rfl⟩
        · cases hk
    obtain ⟨l, hl, rfl, hh, ho⟩ := hfin
    obtain ⟨v', h1, h2⟩ := results_sound hT hf' hr' fn l hl
    have hveq : VR [] (oneOf l) v' := npR_to hv h2
    have hb : Below w.heap.size w w' := ⟨hr'.os, hr'.tape, hr'.output, hr'.size, fun k hk' => by
      by_cases hm' : some k ∈ β.map some ++ γ
      · rcases hr'.fresh k hm' with h3 | h3
        · simp at h3
          obtain ⟨i, hi, e⟩ := List.getElem_of_mem h3
          have hi0 : i < h0.length := by rw [← hβ1]; exact hi
          have hik : β[i]? = some k := by rw [List.getElem?_eq_getElem hi, e]
          have hh0 : h0[i]? = some (h0[i].1, h0[i].2) := by rw [List.getElem?_eq_getElem hi0]
          obtain ⟨g1, g2⟩ := hβ3 i k _ _ hh0 hik
          have hh' : h'[i]? = some (h0[i].1, h0[i].2) := by
            rw [takeL_eq, lenL_eq] at hh
            have : (h'.take h0.length)[i]? = some (h0[i].1, h0[i].2) := by rw [hh]; exact hh0
            rw [List.getElem?_take, if_pos hi0] at this
            exact this
          obtain ⟨cells', g3, g4⟩ := hr'.blk i _ _ k hh' (by rw [List.getElem?_append_left (by simpa using hi)]; simpa using hik)
          rw [g1, g3, exs_eq g2 g4]
        · omega
      · exact hr'.frame k hk' hm'⟩
    have hpost : a'.defers = [] ∧ ∃ v, (results fn a'.tmps).run P w' = .ok v w' ∧ ∃ v_1, Ending.returned v = Ending.returned v_1 ∧ VR [] (oneOf l) v_1 ∧ Below w.heap.size w w' :=
      ⟨hf'.defers, _, h1, _, rfl, hveq, hb⟩
    rcases ho with rfl | rfl
    · exact hpost
    · exact hpost


theorem evP_sound (hm : P.follows .mixedOrders = true) (hT : TabOK P T) {Φp : FuncId → List Value → Option (Bool × Value)} (hΦ : PureFns P Φp) {f : FuncId} {fn : Func} (hf : P.funcs[f]? = some fn) (hn : (fn.name == "runtime.NumGoroutine") = false)
    {Λ : Loops} {c : Code} (hc : fn.body = some c) (hl : LoopsOK P fn.ntmps Λ (loopsOf c)) {n : Nat} {args : List Value} {v : Value} {h1 : Hp} (hargs : args.all dpV = true) (hone : (openA 0 args).2.length ≤ 1) (hv' : h1 = (openA 0 args).2) (hv : npR v = true) (hev : evP T M0 Φp Λ n fn args = some (v, h1)) : PureOK P f args v :=
  ⟨fun w args' hdr => callOK_of_calls hf (by rw [hc]; rfl) hn (evP_calls hm hT hΦ hf hc hl hargs hone hv' hv hev w args' hdr)⟩

end
end Go.Lan
