/- A region's operations, one behind the other: the interpreter's run and the machine's. -/
import Derived.Test.YtpgjihkaocahbaaKg
namespace Go.Lan

def opF (f : Nat → Value) : Operand → Value
  | .tmp t => f t
  | .const v => constV v
  | .func g => .func (.func g) ⟨[]⟩ ⟨[]⟩
  | .global _ => .complex .f32 0 0

theorem opv_eq (e : Env) : opv e = opF (getE e) := by funext x; cases x <;> rfl

def upd (d : Option Tmp) (v : Value) (f : Nat → Value) : Nat → Value :=
  match d with
  | some d => fun n => if d = n then v else f n
  | none => f

theorem getE_cons (k : Nat) (v : Value) (e : Env) (n : Nat) : getE ((k, v) :: e) n = if k = n then v else getE e n := by
  simp only [getE]
  split
  · rename_i h; rw [if_pos (Nat.eq_of_beq_eq_true h)]
  · rename_i h; rw [if_neg (fun e => by subst e; simp at h)]

theorem getE_putE (d : Option Tmp) (v : Value) (e : Env) : getE (putE d v e) = upd d v (getE e) := by
  funext n
  cases d with
  | none => rfl
  | some d => exact getE_cons d v e n

def guardD (all : List Oper) (f : Nat → Value) (o : Oper) : Option Bool :=
  match o.guard with
  | none => some true
  | some (j, want) => match guardSlot all j with
    | none => none
    | some s => match f s with
      | .bool b => some (b == want)
      | .tuple _ => some false
      | _ => none

def outD (T : Tab) (M : Prims) (Φ : Fns) (all : List Oper) (o : Oper) (f : Nat → Value) (h : Hp) : Option (Value × Hp) :=
  match guardD all f o with
  | none => none
  | some false => some (.tuple #[], h)
  | some true => match asPick o.op with
    | some (c, a, b) => match opF f c with
      | .bool x => some (cond x (opF f a) (opF f b), h)
      | _ => none
    | none => match opR T M Φ (opF f) h o.op with
      | some (true, v, h') => some (v, h')
      | _ => none

abbrev S := (Nat → Value) × Hp

def stepD (T : Tab) (M : Prims) (Φ : Fns) (all : List Oper) (o : Oper) (s : S) : Option S :=
  match outD T M Φ all o s.1 s.2 with
  | some (v, h) => some (upd o.dst v s.1, h)
  | none => none

def runI (T : Tab) (M : Prims) (Φ : Fns) (all : List Oper) : List Nat → S → Option S
  | [], s => some s
  | i :: l, s => match all[i]? with
    | none => none
    | some o => match stepD T M Φ all o s with
      | none => none
      | some s' => runI T M Φ all l s'

section
variable {P : Program} {T : Tab} {M : Prims} {Φ : Fns} {β β0 : List (Option Nat)} {w0 w : World} {h : Hp} {a : Act} {ρ : Operand → Value}

theorem cond_some {α : Type} {g : Bool} {x : Option α} {r : α} (h : cond g x none = some r) : g = true ∧ x = some r := by
  cases g
  · cases h
  · exact ⟨rfl, h⟩

theorem upd_self {f : Nat → Value} {s : Nat} {v : Value} (h : f s = v) : upd (some s) v f = f := by
  funext n
  simp only [upd]
  split
  · rename_i e; rw [← e, h]
  · rfl

theorem getE_refine {e : Env} {c : Operand} {b : Bool} (h : opv e c = .bool b) : getE (refine c b e) = getE e := by
  cases c with
  | tmp t =>
    funext n
    simp only [refine, getE_cons]
    split
    · rename_i he; rw [← he]; exact h.symm
    · rfl
  | _ => rfl

theorem evOne_run {o : Oper} {e : Env} {h : Hp} {res : Type} {k : Env → Hp → Option res} {r : res} (all : List Oper) (hg : guardD all (getE e) o = some true) (hev : evOne T M Φ o e h k = some r) :
    ∃ v h' e', outD T M Φ all o (getE e) h = some (v, h') ∧ getE e' = upd o.dst v (getE e) ∧ k e' h' = some r := by
  unfold evOne at hev
  unfold outD
  rw [hg]
  dsimp only
  split at hev
  · rename_i c a b hp
    rw [hp, ← opv_eq]
    split at hev
    · rename_i x hx
      dsimp only
      rw [hx]
      cases x
      · exact ⟨_, _, _, rfl, by rw [getE_putE, getE_refine hx]; rfl, hev⟩
      · exact ⟨_, _, _, rfl, by rw [getE_putE, getE_refine hx]; rfl, hev⟩
    · cases hev
  · rename_i hp
    rw [hp, ← opv_eq]
    split at hev
    · rename_i g v h' hop
      obtain ⟨rfl, hk⟩ := cond_some hev
      dsimp only
      rw [hop]
      exact ⟨v, h', _, rfl, getE_putE _ _ _, hk⟩
    · cases hev

theorem evOps_run {res : Type} (all : List Oper) : ∀ (l : List Oper) (j : Nat) (e : Env) (h : Hp) (k : Env → Hp → Option res) (r : res), all.drop j = l → evOps T M Φ all l e h k = some r →
    ∃ f' h' e', runI T M Φ all (List.range' j l.length) (getE e, h) = some (f', h') ∧ getE e' = f' ∧ k e' h' = some r
  | [], j, e, h, k, r, _, hev => ⟨_, _, e, rfl, rfl, hev⟩
  | o :: l, j, e, h, k, r, hd, hev => by
    have ho : all[j]? = some o := by
      have : (all.drop j)[0]? = some o := by rw [hd]; rfl
      simpa using this
    have hd' : all.drop (j + 1) = l := by
      have : (all.drop j).drop 1 = l := by rw [hd]; rfl
      rw [List.drop_drop] at this
      exact this
    rw [List.length_cons, List.range'_succ]
    have done : ∀ v h1 e1, outD T M Φ all o (getE e) h = some (v, h1) → getE e1 = upd o.dst v (getE e) → evOps T M Φ all l e1 h1 k = some r →
        ∃ f' h' e', runI T M Φ all (j :: List.range' (j + 1) l.length) (getE e, h) = some (f', h') ∧ getE e' = f' ∧ k e' h' = some r := by
      intro v h1 e1 h2 h3 h4
      obtain ⟨f', h', e', a1, a2, a3⟩ := evOps_run all l (j + 1) e1 h1 k r hd' h4
      refine ⟨f', h', e', ?_, a2, a3⟩
      simp only [runI, ho, stepD, h2]
      rw [← h3]
      exact a1
    have one : ∀ e2, getE e2 = getE e → guardD all (getE e) o = some true → (evOne T M Φ o e2 h fun e h => evOps T M Φ all l e h k) = some r →
        ∃ f' h' e', runI T M Φ all (j :: List.range' (j + 1) l.length) (getE e, h) = some (f', h') ∧ getE e' = f' ∧ k e' h' = some r := by
      intro e2 he hg hh
      rw [← he] at hg
      obtain ⟨v, h1, e1, b1, b2, b3⟩ := evOne_run all hg hh
      rw [he] at b1 b2
      exact done v h1 e1 b1 b2 b3
    have skip : ∀ e2, getE e2 = getE e → guardD all (getE e) o = some false → evOps T M Φ all l (putE o.dst (.tuple #[]) e2) h k = some r →
        ∃ f' h' e', runI T M Φ all (j :: List.range' (j + 1) l.length) (getE e, h) = some (f', h') ∧ getE e' = f' ∧ k e' h' = some r := by
      intro e2 he hg hh
      refine done (.tuple #[]) h _ ?_ ?_ hh
      · simp [outD, hg]
      · rw [getE_putE, he]
    simp only [evOps] at hev
    split at hev
    · rename_i hg
      exact one e rfl (by simp [guardD, hg]) hev
    · rename_i j' want hg
      split at hev
      · cases hev
      · rename_i s hs
        split at hev
        · rename_i b hb
          have hself : ∀ c, c = b → getE ((s, .bool c) :: e) = getE e := by
            intro c hc
            funext n
            rw [getE_cons]
            split
            · rename_i h1; rw [← h1, hb, hc]
            · rfl
          cases b <;> cases want <;> simp only [cond_true, cond_false] at hev
          · exact one _ (hself _ rfl) (by simp [guardD, hg, hs, hb]) hev
          · exact skip _ (hself _ rfl) (by simp [guardD, hg, hs, hb]) hev
          · exact skip _ (hself _ rfl) (by simp [guardD, hg, hs, hb]) hev
          · exact one _ (hself _ rfl) (by simp [guardD, hg, hs, hb]) hev
        · rename_i l' hb
          exact skip e rfl (by simp [guardD, hg, hs, hb]) hev
        · cases hev

end
end Go.Lan
