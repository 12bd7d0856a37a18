import Derived.Test.YtpgjihkaocahbaaGreatGKhKm
import Derived.Below
import Derived.ProofKit
/- Orders, by what each operation touches; blocks that are made in any order. -/
namespace Go.Lan
section
variable {P : Program} {T : Tab} {M : Prims} {Φ : Fns} {pc : Bool}

/-- An operation without a test. -/
def bare (o : Oper) : Prop := o.guard = none ∧ asPick o.op = none

/-- An operation, where a block that it makes has its number beforehand. -/
def opN (T : Tab) (M : Prims) (Φ : Fns) (p : Option Nat) (ρ : Operand → Value) (h : Hp) (op : Op) : Option (Bool × Value × Hp) :=
  match p with
  | none => opR T M Φ ρ h op
  | some p => match opR T M Φ ρ [] op with
    | some (g, v, [x]) => some (g, nameV p v, h.set p x)
    | _ => none

def outN (T : Tab) (M : Prims) (Φ : Fns) (p : Option Nat) (o : Oper) (f : Nat → Value) (h : Hp) : Option (Value × Hp) :=
  match opN T M Φ p (opF f) h o.op with
  | some (true, v, h') => some (v, h')
  | _ => none

def stepN (T : Tab) (M : Prims) (Φ : Fns) (all : List Oper) (nm : Nat → Option Nat) (i : Nat) (s : S) : Option S :=
  match all[i]? with
  | none => none
  | some o => match outN T M Φ (nm i) o s.1 s.2 with
    | some (v, h) => some (upd o.dst v s.1, h)
    | none => none

def runN (T : Tab) (M : Prims) (Φ : Fns) (all : List Oper) (nm : Nat → Option Nat) : List Nat → S → Option S
  | [], s => some s
  | i :: l, s => (stepN T M Φ all nm i s).bind (runN T M Φ all nm l)

theorem runN_append (all : List Oper) (nm : Nat → Option Nat) : ∀ (l m : List Nat) (s : S), runN T M Φ all nm (l ++ m) s = (runN T M Φ all nm l s).bind (runN T M Φ all nm m)
  | [], m, s => rfl
  | i :: l, m, s => by
    rw [List.cons_append, runN, runN, Option.bind_assoc]
    congr 1
    funext s'
    exact runN_append all nm l m s'

theorem outN_some {p : Option Nat} {o : Oper} {f : Nat → Value} {h : Hp} {v : Value} {h' : Hp} : outN T M Φ p o f h = some (v, h') ↔ opN T M Φ p (opF f) h o.op = some (true, v, h') := by
  unfold outN
  constructor
  · intro he
    split at he
    · rename_i h1; cases he; exact h1
    · cases he
  · intro he
    rw [he]

def fpN (pc : Bool) (p : Option Nat) (o : Oper) (f : Nat → Value) : FP :=
  match p with
  | some p => .wr p
  | none => fpOp pc (opF f) o.op

theorem outN_congr {p : Option Nat} {all : List Oper} {o : Oper} {f g : Nat → Value} {h : Hp} (hh : ∀ d ∈ looks all o, f d = g d) : outN T M Φ p o f h = outN T M Φ p o g h := by
  have hops : ∀ x ∈ o.op.operands.toList, opF f x = opF g x := opF_congr _ fun d hd => hh d (looks_ops d hd)
  unfold outN opN
  cases p with
  | none => dsimp only; rw [opR_congr h o.op hops]
  | some p => dsimp only; rw [opR_congr [] o.op hops]

theorem fpOp_congr {ρ ρ' : Operand → Value} (op : Op) (hh : ∀ x ∈ op.operands.toList, ρ x = ρ' x) : fpOp pc ρ op = fpOp pc ρ' op := by
  cases op with
  | load t a => simp only [fpOp, hh a (by simp [Op.operands])]
  | store t a v => simp only [fpOp, hh a (by simp [Op.operands])]
  | call c =>
    have hh' : ∀ x ∈ c.operands, ρ x = ρ' x := fun x hx => hh x (by simpa [Op.operands] using hx)
    have hargs : opvs ρ c.args.toList = opvs ρ' c.args.toList := opvs_congr _ fun x hx => hh' x (by simp only [Call.operands, Array.mem_append]; exact .inr (Array.mem_toList_iff.1 hx))
    simp only [fpOp]
    cases hc : c.callee with
    | value f =>
      have : ρ f = ρ' f := hh' f (by simp [Call.operands, hc])
      simp only [this, hargs]
    | builtin b => rfl
    | invoke r m => rfl
  | _ => rfl

theorem fpN_congr {p : Option Nat} {all : List Oper} {o : Oper} {f g : Nat → Value} (hh : ∀ d ∈ looks all o, f d = g d) : fpN pc p o f = fpN pc p o g := by
  unfold fpN
  split
  · rfl
  · exact fpOp_congr _ (opF_congr _ fun d hd => hh d (looks_ops d hd))

theorem eff_no (hpc : pc = true → PureF Φ) {p : Option Nat} {o : Oper} {f : Nat → Value} {h h' : Hp} {v : Value} (hf : fpN pc p o f = .no) (hout : outN T M Φ p o f h = some (v, h')) :
    h' = h ∧ ∀ h2, outN T M Φ p o f h2 = some (v, h2) := by
  unfold fpN at hf
  split at hf
  · cases hf
  have hm : memK pc o.op = 0 := by
    unfold fpOp at hf
    split at hf
    · split at hf <;> cases hf
    · split at hf <;> cases hf
    · rename_i c hc
      split at hf
      · split at hf
        · cases pc <;> cases hf
        · cases hf
      · split at hf
        · rw [hc]; assumption
        · cases hf
      · cases hf
    · split at hf
      · assumption
      · cases hf
  rw [outN_some] at hout
  have h1 := opR_keeps hpc (by omega) hout
  refine ⟨h1, fun h2 => ?_⟩
  rw [outN_some]
  simp only [opN] at hout ⊢
  rw [opR_blind (h := h) h2 hm, hout]
  rfl

theorem eff_rd (hpc : pc = true → PureF Φ) {p : Option Nat} {o : Oper} {f : Nat → Value} {h h' : Hp} {v : Value} {l : List Nat} (hf : fpN pc p o f = .rd l) (hout : outN T M Φ p o f h = some (v, h')) :
    h' = h ∧ ∀ h2, (∀ b ∈ l, nth h2 b = nth h b) → outN T M Φ p o f h2 = some (v, h2) := by
  unfold fpN at hf
  split at hf
  · cases hf
  rw [outN_some] at hout
  unfold fpOp at hf
  split at hf
  · rename_i t a hop
    rw [hop] at hout
    simp only [opN, opR] at hout
    split at hout
    · rename_i ti ht
      split at hout
      · rename_i b' off hx
        split at hout
        · rename_i cells t' hb'
          split at hout
          · rename_i v' hv'
            cases hout
            refine ⟨rfl, fun h2 h3 => ?_⟩
            rw [outN_some, hop]
            have hb2 : nth h2 b' = nth h b' := h3 b' (by
              rw [hx] at hf
              simp only [blockOf, FP.rd.injEq] at hf
              rw [← hf]; simp)
            simp only [opN, opR, ht, hx, hb2, hb', hv']
          · cases hout
        · cases hout
      · cases hout
    · cases hout
  · split at hf <;> cases hf
  · rename_i c hop
    rw [hop] at hout
    simp only [opN, opR, callV] at hout
    split at hf
    · rename_i g hcal
      rw [hcal] at hout
      dsimp only at hout
      split at hf
      · rename_i f0 first captured hg
        cases pc
        · cases hf
        · cases hf
          split at hout
          · rename_i f' first' captured' hg'
            rw [hg] at hg'
            cases hg'
            have hp := hpc rfl f' (appL first (appL (opvs (opF f) c.args.toList) captured))
            have e1 := hp h h fun _ _ => rfl
            rw [hout] at e1
            simp at e1
            refine ⟨e1, fun h2 h3 => ?_⟩
            rw [outN_some, hop]
            simp only [opN, opR, callV, hcal, hg]
            rw [hp h h2 h3, hout]
            rfl
          · cases hout
      · cases hf
    · split at hf <;> cases hf
    · cases hf
  · split at hf <;> cases hf

theorem eff_wr {p : Option Nat} {o : Oper} {f : Nat → Value} {h h' : Hp} {v : Value} {b : Nat} (hf : fpN pc p o f = .wr b) (hout : outN T M Φ p o f h = some (v, h')) :
    ∃ x, h' = h.set b x ∧ ∀ h2, nth h2 b = nth h b → outN T M Φ p o f h2 = some (v, h2.set b x) := by
  rw [outN_some] at hout
  unfold fpN at hf
  split at hf
  · cases hf
    simp only [opN] at hout
    split at hout
    · rename_i g v' x hv
      cases hout
      refine ⟨x, rfl, fun h2 _ => ?_⟩
      rw [outN_some]
      simp only [opN, hv]
    · cases hout
  unfold fpOp at hf
  split at hf
  · split at hf <;> cases hf
  · rename_i t a y hop
    rw [hop] at hout
    have hblk : blockOf (opF f a) = some b := by
      split at hf
      · cases hf; assumption
      · cases hf
    simp only [opN, opR] at hout
    split at hout
    · rename_i ti ht
      split at hout
      · rename_i b' off hx
        rw [hx] at hblk
        cases hblk
        split at hout
        · rename_i cells t' hb'
          split at hout
          · rename_i c2 hc2
            cases hout
            refine ⟨_, setL_eq _ _ _, fun h2 h3 => ?_⟩
            rw [outN_some, hop]
            simp only [opN, opR, ht, hx, h3, hb', hc2, setL_eq]
          · cases hout
        · cases hout
      · cases hout
    · cases hout
  · split at hf
    · split at hf
      · cases pc <;> cases hf
      · cases hf
    · split at hf <;> cases hf
    · cases hf
  · split at hf <;> cases hf

/-- The two may change places. -/
def CT (all : List Oper) (F : Nat → FP) (i j : Nat) : Prop :=
  ∀ x y, all[i]? = some x → all[j]? = some y → apartRegs all x y = true ∧ disj (F i) (F j) = true

def runsT (T : Tab) (M : Prims) (Φ : Fns) (pc : Bool) (all : List Oper) (nm : Nat → Option Nat) (F : Nat → FP) : List Nat → S → S → Prop
  | [], s, s' => s = s'
  | i :: l, s, s' => ∃ o v h1, all[i]? = some o ∧ outN T M Φ (nm i) o s.1 s.2 = some (v, h1) ∧ fpN pc (nm i) o s.1 = F i ∧ runsT T M Φ pc all nm F l (upd o.dst v s.1, h1) s'

theorem runN_of_runsT {all : List Oper} {nm : Nat → Option Nat} {F : Nat → FP} : ∀ {l : List Nat} {s s' : S}, runsT T M Φ pc all nm F l s s' → runN T M Φ all nm l s = some s'
  | [], s, s', h => by rw [show s = s' from h]; rfl
  | i :: l, s, s', ⟨o, v, h1', h1, h2, _, h4⟩ => by
    simp only [runN, stepN, h1, h2, Option.bind_some]
    exact runN_of_runsT h4

theorem nth_set_ne {α : Type} (l : List α) {b c : Nat} (x : α) (h : b ≠ c) : nth (l.set b x) c = nth l c := by rw [nth_eq, nth_eq, List.getElem?_set_ne h]

theorem not_memN {l : List Nat} {b c : Nat} (h : (!memN l c) = true) (hb : b ∈ l) : b ≠ c := by
  intro e
  subst e
  rw [(memN_iff _ _).2 hb] at h
  cases h

theorem swap (hpc : pc = true → PureF Φ) {all : List Oper} {nm : Nat → Option Nat} {F : Nat → FP} {i j : Nat} {l : List Nat} {s s' : S} (hr : runsT T M Φ pc all nm F (i :: j :: l) s s') (hc : CT all F i j) : runsT T M Φ pc all nm F (j :: i :: l) s s' := by
  obtain ⟨x, v, h1, hx, hox, hfx, y, u, h2, hy, hoy, hfy, hl⟩ := hr
  obtain ⟨hap, hdj⟩ := hc x y hx hy
  obtain ⟨f, h⟩ := s
  simp only [apartRegs, Bool.and_eq_true, Bool.not_eq_true'] at hap
  obtain ⟨⟨a1, a2⟩, a3⟩ := hap
  have i1 : ∀ d, x.dst = some d → d ∉ looks all y := fun d hd hm => by rw [hd, dstIn, (memN_iff _ _).2 hm] at a1; cases a1
  have i2 : ∀ d, y.dst = some d → d ∉ looks all x := fun d hd hm => by rw [hd, dstIn, (memN_iff _ _).2 hm] at a2; cases a2
  have i3 : ∀ d, x.dst = some d → y.dst ≠ some d := fun d hd he => by rw [hd, he, dstEq] at a3; simp at a3
  have cy : ∀ v h', outN T M Φ (nm j) y (upd x.dst v f) h' = outN T M Φ (nm j) y f h' := fun v h' => outN_congr (all := all) fun d hd => upd_other fun e => i1 d e hd
  have cx : ∀ v h', outN T M Φ (nm i) x (upd y.dst v f) h' = outN T M Φ (nm i) x f h' := fun v h' => outN_congr (all := all) fun d hd => upd_other fun e => i2 d e hd
  have ex : ∀ v, fpN pc (nm i) x (upd y.dst v f) = fpN pc (nm i) x f := fun v => fpN_congr (all := all) fun d hd => upd_other fun e => i2 d e hd
  have ey : ∀ v, fpN pc (nm j) y (upd x.dst v f) = fpN pc (nm j) y f := fun v => fpN_congr (all := all) fun d hd => upd_other fun e => i1 d e hd
  dsimp only at hox hoy hfx hfy hl
  rw [cy] at hoy
  rw [ey] at hfy
  have fin : ∀ h3, outN T M Φ (nm j) y f h = some (u, h3) → outN T M Φ (nm i) x f h3 = some (v, h2) → runsT T M Φ pc all nm F (j :: i :: l) (f, h) s' := by
    intro h3 e1 e2
    refine ⟨y, u, h3, hy, e1, hfy, x, v, h2, hx, by dsimp only; rw [cx]; exact e2, by rw [← hfx]; exact ex u, ?_⟩
    dsimp only
    rw [← upd_comm i3]
    exact hl
  rw [← hfx, ← hfy] at hdj
  cases h3 : fpN pc (nm i) x f with
  | no =>
    obtain ⟨rfl, e1⟩ := eff_no hpc h3 hox
    exact fin _ hoy (e1 _)
  | rd b =>
    obtain ⟨rfl, e1⟩ := eff_rd hpc h3 hox
    cases h4 : fpN pc (nm j) y f with
    | no =>
      obtain ⟨rfl, e2⟩ := eff_no hpc h4 hoy
      exact fin _ hoy hox
    | rd c =>
      obtain ⟨rfl, e2⟩ := eff_rd hpc h4 hoy
      exact fin _ hoy hox
    | wr c =>
      obtain ⟨z, rfl, e2⟩ := eff_wr h4 hoy
      rw [h3, h4] at hdj
      exact fin _ hoy (e1 _ fun b' hb' => nth_set_ne _ _ (Ne.symm (not_memN hdj hb')))
    | all => rw [h3, h4] at hdj; cases hdj
  | wr b =>
    obtain ⟨z, rfl, e1⟩ := eff_wr h3 hox
    cases h4 : fpN pc (nm j) y f with
    | no =>
      obtain ⟨rfl, e2⟩ := eff_no hpc h4 hoy
      exact fin h (e2 h) hox
    | rd c =>
      obtain ⟨rfl, e2⟩ := eff_rd hpc h4 hoy
      rw [h3, h4] at hdj
      exact fin h (e2 h fun b' hb' => (nth_set_ne _ _ (Ne.symm (not_memN hdj hb'))).symm) hox
    | wr c =>
      obtain ⟨z', rfl, e2⟩ := eff_wr h4 hoy
      rw [h3, h4] at hdj
      have hne : b ≠ c := fun e => by subst e; simp [disj] at hdj
      refine fin (h.set c z') (e2 h (nth_set_ne _ _ hne).symm) ?_
      rw [e1 _ (nth_set_ne _ _ (Ne.symm hne)), List.set_comm _ _ hne]
    | all => rw [h3, h4] at hdj; cases hdj
  | all =>
    cases h4 : fpN pc (nm j) y f with
    | no =>
      obtain ⟨rfl, e2⟩ := eff_no hpc h4 hoy
      exact fin h (e2 h) hox
    | _ => rw [h3, h4] at hdj; cases hdj

theorem moveFront (hpc : pc = true → PureF Φ) {all : List Oper} {nm : Nat → Option Nat} {F : Nat → FP} {y : Nat} {B : List Nat} {s' : S} : ∀ {A : List Nat} {s : S}, runsT T M Φ pc all nm F (A ++ y :: B) s s' → (∀ a ∈ A, CT all F a y) → runsT T M Φ pc all nm F (y :: (A ++ B)) s s'
  | [], s, h, _ => h
  | a :: A, s, ⟨o, v, h1', h1, h2, h3, h4⟩, hc => by
    have := moveFront hpc h4 fun b hb => hc b (by simp [hb])
    exact swap hpc ⟨o, v, h1', h1, h2, h3, this⟩ (hc a (by simp))

theorem runs_perm (hpc : pc = true → PureF Φ) {all : List Oper} {nm : Nat → Option Nat} {F : Nat → FP} {s' : S} : ∀ {Y Z : List Nat} {s : S}, Y.Nodup → Z.Pairwise (· < ·) → (∀ i, i ∈ Y ↔ i ∈ Z) → Y.Pairwise (fun i j => j < i → CT all F j i) →
    runsT T M Φ pc all nm F Z s s' → runsT T M Φ pc all nm F Y s s'
  | [], Z, s, _, _, hm, _, hr => by
    have : Z = [] := by
      cases Z with
      | nil => rfl
      | cons z Z => have := (hm z).2 (by simp); cases this
    subst this
    exact hr
  | y :: Y, Z, s, hn, hs, hm, hp, hr => by
    obtain ⟨n1, n2⟩ := List.nodup_cons.1 hn
    obtain ⟨p1, p2⟩ := List.pairwise_cons.1 hp
    have hy : y ∈ Z := (hm y).1 (by simp)
    obtain ⟨A, B, rfl⟩ := List.append_of_mem hy
    obtain ⟨s1, s2, s3⟩ := List.pairwise_append.1 hs
    obtain ⟨s4, s5⟩ := List.pairwise_cons.1 s2
    have hA : ∀ a ∈ A, a < y := fun a ha => s3 a ha y (by simp)
    have hAY : ∀ a ∈ A, a ∈ Y := fun a ha => by
      have := (hm a).2 (by simp [ha])
      rcases List.mem_cons.1 this with e | e
      · have := hA a ha; omega
      · exact e
    have h1 := moveFront hpc hr fun a ha => p1 a (hAY a ha) (hA a ha)
    obtain ⟨o, v, h1', q1, q2, q3, q4⟩ := h1
    refine ⟨o, v, h1', q1, q2, q3, runs_perm hpc n2 ?_ (fun i => ?_) p2 q4⟩
    · exact List.pairwise_append.2 ⟨s1, s5, fun a ha b hb => s3 a ha b (by simp [hb])⟩
    · constructor
      · intro hi
        have := (hm i).1 (by simp [hi])
        rcases List.mem_append.1 this with e | e
        · simp [e]
        · rcases List.mem_cons.1 e with e | e
          · subst e; exact absurd hi n1
          · simp [e]
      · intro hi
        have hne : i ≠ y := by
          intro e
          subst e
          rcases List.mem_append.1 hi with e | e
          · have := hA i e; omega
          · have := s4 i e; omega
        have := (hm i).2 (by rcases List.mem_append.1 hi with e | e <;> simp [e])
        rcases List.mem_cons.1 this with e | e
        · exact absurd e hne
        · exact e

theorem nth_app {α : Type} (l m : List α) {b : Nat} (h : b < l.length) : nth (l ++ m) b = nth l b := by rw [nth_eq, nth_eq, List.getElem?_append_left h]

theorem allBelow_mem {n : Nat} : ∀ {l : List Nat}, allBelow n l = true → ∀ b ∈ l, b < n
  | [], _, b, h => by simp at h
  | x :: l, hl, b, h => by
    simp only [allBelow, Bool.and_eq_true, Nat.blt_eq] at hl
    rcases List.mem_cons.1 h with rfl | h
    · exact hl.1
    · exact allBelow_mem hl.2 b h

theorem al_pure {ρ : Operand → Value} {h h' : Hp} {op : Op} {v : Value} (ha : isAl op = true) (hop : opR T M Φ ρ h op = some (true, v, h')) :
    ∃ x, h' = h ++ [x] ∧ v = nameV (lenL h) v ∧ ∀ h2, opR T M Φ ρ h2 op = some (true, nameV (lenL h2) v, h2 ++ [x]) := by
  cases op with
  | alloc t =>
    simp only [opR] at hop
    split at hop
    · rename_i ti ht
      cases hop
      exact ⟨_, appL_eq _ _, rfl, fun h2 => by simp only [opR, ht, appL_eq]; rfl⟩
    · cases hop
  | box t x =>
    simp only [opR] at hop
    split at hop
    · cases hop
    · rename_i vs hvs
      cases hop
      exact ⟨_, appL_eq _ _, rfl, fun h2 => by simp only [opR, hvs, appL_eq]; rfl⟩
  | buildSlice t n parts =>
    simp only [opR] at hop
    split at hop
    · rename_i _ _ el _ ht
      split at hop
      · rename_i ei hel
        split at hop
        · rename_i hb
          split at hop
          · rename_i l hl
            cases hop
            exact ⟨_, appL_eq _ _, rfl, fun h2 => by simp only [opR, ht, hel, hb, hl, appL_eq]; rfl⟩
          · cases hop
        · cases hop
      · cases hop
    · cases hop
  | _ => simp [isAl] at ha

/-- What the look saw of an operation. -/
structure Saw (o : Oper) (t : Option Nat × FP) : Prop where
  bare : bare o
  name : ∀ p, t.1 = some p → isAl o.op = true ∧ t.2 = .wr p

/-- The text's order, with room for all blocks from the start. -/
theorem fpRun_runs (hpc : pc = true → PureF Φ)
    {all : List Oper} {nm : Nat → Option Nat} {F : Nat → FP} : ∀ {l : List Oper} {j : Nat} {e : Env} {f : Nat → Value} {h : Hp} {ts : List (Option Nat × FP)} {f' : Nat → Value} {h' : Hp}, all.drop j = l → getE e = f → fpRun T M Φ pc l e h = some ts →
    (∀ i, i < ts.length → nm (j + i) = (ts.getD i (none, .all)).1 ∧ F (j + i) = (ts.getD i (none, .all)).2) →
    runI T M Φ all (List.range' j l.length) (f, h) = some (f', h') →
    ∃ x, h'.length = h.length + x ∧ ts.length = l.length ∧ (∀ (i : Nat) (o : Oper) (t : Option Nat × FP), l[i]? = some o → ts[i]? = some t → Saw o t) ∧ (∀ (i p : Nat), (ts.getD i (none, .all)).1 = some p → h.length ≤ p ∧ p < h'.length) ∧ (∀ (i k p : Nat), (ts.getD i (none, .all)).1 = some p → (ts.getD k (none, .all)).1 = some p → i = k) ∧
    ∀ z : Hp, z.length = x → runsT T M Φ pc all nm F (List.range' j l.length) (f, h ++ z) (f', h')
  | [], j, e, f, h, ts, f', h', _, _, hf, _, hr => by
    cases hf
    cases hr
    refine ⟨0, rfl, rfl, by simp, by simp, by simp, fun z hz => ?_⟩
    have : z = [] := List.length_eq_zero_iff.1 hz
    subst this
    show (f, h ++ []) = (f, h)
    rw [List.append_nil]
  | o :: l, j, e, f, h, ts, f', h', hd, he, hf, hF, hr => by
    subst he
    have ho : all[j]? = some o := by
      have : (all.drop j)[0]? = some o := by rw [hd]; rfl
      simpa using this
    have hd' : all.drop (j + 1) = l := by
      have : (all.drop j).drop 1 = l := by rw [hd]; rfl
      rw [List.drop_drop] at this
      exact this
    simp only [fpRun] at hf
    split at hf
    case h_2 => cases hf
    rename_i hg hp
    have hb : bare o := ⟨hg, hp⟩
    split at hf
    case h_2 => cases hf
    rename_i g v h1 hop
    split at hf
    case h_2 => cases hf
    rename_i t ht
    rw [List.length_cons, List.range'_succ] at hr ⊢
    simp only [runI, ho] at hr
    split at hr
    · cases hr
    rename_i s1 hst
    have hg' : g = true ∧ s1 = (upd o.dst v (getE e), h1) := by
      unfold stepD outD guardD at hst
      rw [hb.1, hb.2] at hst
      dsimp only at hst
      rw [← opv_eq, hop] at hst
      cases g
      · cases hst
      · cases hst; exact ⟨rfl, rfl⟩
    obtain ⟨rfl, rfl⟩ := hg'
    have step : ∀ u : Option Nat × FP, ts = u :: t → (∀ i, i < t.length → nm (j + 1 + i) = (t.getD i (none, .all)).1 ∧ F (j + 1 + i) = (t.getD i (none, .all)).2) := by
      intro u hu i hi
      have := hF (i + 1) (by rw [hu]; simp; omega)
      rw [hu, List.getD_cons_succ] at this
      rw [show j + 1 + i = j + (i + 1) by omega]
      exact this
    have hF0 : ∀ u : Option Nat × FP, ts = u :: t → nm j = u.1 ∧ F j = u.2 := by
      intro u hu
      have := hF 0 (by rw [hu]; simp)
      rw [hu] at this
      simpa using this
    split at hf
    · rename_i hal
      cases hf
      obtain ⟨x, q1, q2, q3, q4, q5, q6⟩ := fpRun_runs hpc hd' (getE_putE _ _ _) ht (step _ rfl) hr
      obtain ⟨e1, e2⟩ := hF0 _ rfl
      obtain ⟨blk, r1, r2, r3⟩ := al_pure hal hop
      subst r1
      rw [List.length_append, List.length_singleton] at q1
      refine ⟨x + 1, by omega, by simp [q2], ?_, ?_, ?_, fun z hz => ?_⟩
      · intro i o' t' hi hi'
        cases i with
        | zero => simp at hi hi'; subst hi; subst hi'; exact ⟨hb, fun p hp => by cases hp; exact ⟨hal, rfl⟩⟩
        | succ i => exact q3 i o' t' (by simpa using hi) (by simpa using hi')
      · intro i p hi
        cases i with
        | zero => simp [lenL_eq] at hi; subst hi; omega
        | succ i =>
          rw [List.getD_cons_succ] at hi
          have := q4 i p hi
          simp at this
          omega
      · intro i k p hi hk
        cases i with
        | zero =>
          cases k with
          | zero => rfl
          | succ k =>
            simp [lenL_eq] at hi
            rw [List.getD_cons_succ] at hk
            have := q4 k p hk
            simp at this
            omega
        | succ i =>
          rw [List.getD_cons_succ] at hi
          cases k with
          | zero =>
            simp [lenL_eq] at hk
            have := q4 i p hi
            simp at this
            omega
          | succ k =>
            rw [List.getD_cons_succ] at hk
            rw [q5 i k p hi hk]
      · cases z with
        | nil => simp at hz
        | cons z0 z =>
          simp only [List.length_cons, Nat.add_right_cancel_iff] at hz
          have e3 : outN T M Φ (nm j) o (getE e) (h ++ z0 :: z) = some (v, (h ++ [blk]) ++ z) := by
            rw [outN_some, e1]
            simp only [opN]
            rw [← opv_eq, r3 []]
            simp only [List.nil_append]
            rw [show nameV (lenL h) (nameV (lenL ([] : Hp)) v) = v by
              rw [r2]
              cases v with
              | pointer a => cases a <;> rfl
              | slice a l c => cases a <;> rfl
              | _ => rfl]
            rw [lenL_eq]
            simp
          exact ⟨o, v, _, ho, e3, by rw [e1, e2]; rfl, q6 z hz⟩
    · rename_i hal
      split at hf
      case h_2 => cases hf
      rename_i hin
      cases hf
      obtain ⟨e1, e2⟩ := hF0 _ rfl
      dsimp only at e1 e2
      rw [opv_eq] at hop hin e2
      have hfp : fpN pc (nm j) o (getE e) = fpOp pc (opF (getE e)) o.op := by rw [e1]; rfl
      have hout : outN T M Φ (nm j) o (getE e) h = some (v, h1) := by
        rw [outN_some, e1]
        exact hop
      have key : h1.length = h.length ∧ ∀ z, outN T M Φ (nm j) o (getE e) (h ++ z) = some (v, h1 ++ z) := by
        rw [lenL_eq] at hin
        cases h3 : fpOp pc (opF (getE e)) o.op with
        | no =>
          obtain ⟨rfl, w2⟩ := eff_no hpc (hfp.trans h3) hout
          exact ⟨rfl, fun z => w2 _⟩
        | rd b =>
          obtain ⟨rfl, w2⟩ := eff_rd hpc (hfp.trans h3) hout
          rw [h3] at hin
          exact ⟨rfl, fun z => w2 _ fun b' hb' => nth_app _ _ (allBelow_mem hin b' hb')⟩
        | wr b =>
          obtain ⟨y, rfl, w2⟩ := eff_wr (hfp.trans h3) hout
          rw [h3] at hin
          simp only [fpIn, Nat.blt_eq] at hin
          refine ⟨by simp, fun z => ?_⟩
          rw [w2 _ (nth_app _ _ hin), List.set_append_left _ _ hin]
        | all => rw [h3] at hin; cases hin
      obtain ⟨k1, k2⟩ := key
      obtain ⟨x, q1, q2, q3, q4, q5, q6⟩ := fpRun_runs hpc hd' (getE_putE _ _ _) ht (step _ rfl) hr
      refine ⟨x, by omega, by simp [q2], ?_, ?_, ?_, fun z hz => ⟨o, v, _, ho, k2 z, by rw [hfp, e2], q6 z hz⟩⟩
      · intro i o' t' hi hi'
        cases i with
        | zero => simp at hi hi'; subst hi; subst hi'; exact ⟨hb, fun p hp => by cases hp⟩
        | succ i => exact q3 i o' t' (by simpa using hi) (by simpa using hi')
      · intro i p hi
        cases i with
        | zero => simp at hi
        | succ i =>
          rw [List.getD_cons_succ] at hi
          have := q4 i p hi
          omega
      · intro i k p hi hk
        cases i with
        | zero => simp at hi
        | succ i =>
          cases k with
          | zero => simp at hk
          | succ k =>
            rw [List.getD_cons_succ] at hi hk
            rw [q5 i k p hi hk]

theorem dynOne_get {all : List Oper} {o : Oper} {t : FP} : ∀ {l : List Oper} {us : List (Option Nat × FP)} {j : Nat}, dynOne all o t j l us = true → ∀ (k : Nat) (x : Oper), l[k]? = some x → edgeTo (j + k) o.after.toList = true ∨ (apartRegs all x o = true ∧ disj (us.getD k (none, .all)).2 t = true)
  | [], _, _, _, k, x, h => by simp at h
  | y :: l, [], j, hd, k, x, h => by simp [dynOne] at hd
  | y :: l, u :: us, j, hd, 0, x, h => by
    simp only [dynOne, Bool.and_eq_true, Bool.or_eq_true] at hd
    simp at h
    subst h
    exact hd.1
  | y :: l, u :: us, j, hd, k + 1, x, h => by
    simp only [dynOne, Bool.and_eq_true, Bool.or_eq_true] at hd
    have := dynOne_get hd.2 k x (by simpa using h)
    rw [show j + 1 + k = j + (k + 1) by omega] at this
    simpa using this

theorem dynAll_get {all : List Oper} : ∀ {l before : List Oper} {tb ts : List (Option Nat × FP)} {i : Nat}, dynAll all i before tb l ts = true → before.length = i → tb.length = i → ∀ (k : Nat) (o : Oper), l[k]? = some o →
    edgesBack (i + k) o.after.toList = true ∧ ∀ (j : Nat) (x : Oper), j < i + k → (before ++ l)[j]? = some x → edgeTo j o.after.toList = true ∨ (apartRegs all x o = true ∧ disj ((tb ++ ts).getD j (none, .all)).2 (ts.getD k (none, .all)).2 = true)
  | [], _, _, _, _, _, _, _, k, o, h => by simp at h
  | o' :: l, _, _, [], _, hd, _, _, _, _, _ => by simp [dynAll] at hd
  | o' :: l, before, tb, t :: ts, i, hd, hb, htb, 0, o, h => by
    simp only [dynAll, Bool.and_eq_true] at hd
    simp at h
    subst h
    refine ⟨hd.1.1, fun j x hj hx => ?_⟩
    rw [List.getElem?_append_left (by omega)] at hx
    have := dynOne_get hd.1.2 j x hx
    rw [Nat.zero_add] at this
    rw [List.getD_eq_getElem?_getD, List.getElem?_append_left (by omega), ← List.getD_eq_getElem?_getD]
    simpa using this
  | o' :: l, before, tb, t :: ts, i, hd, hb, htb, k + 1, o, h => by
    simp only [dynAll, Bool.and_eq_true, appL_eq] at hd
    have := dynAll_get hd.2 (by simp [hb]) (by simp [htb]) k o (by simpa using h)
    rw [show i + 1 + k = i + (k + 1) by omega] at this
    simpa using this


/-- The machine carries it out. -/
theorem stepN_sound (hT : TabOK P T) (hΦ : FnsOK P Φ) {ops : Array Oper} {tn : Nat} (hdst : dstsOK tn ops.toList = true) {w0 w : World} {β0 β : List (Option Nat)} {h : Hp} {f : Nat → Value} {a : Act} {i : Nat} {o : Oper} (ho : ops.toList[i]? = some o) (hb : bare o) {p : Option Nat}
    {v : Value} {h' : Hp} (hout : outN T M0 Φ p o f h = some (v, h')) (hp : ∀ q, p = some q → isAl o.op = true ∧ β[q]? = some none) (hf : FR tn β f a) (hr : Rel w0 β0 β h w) {K : Act → World → Prop} {Q : Exit → Act → World → Prop}
    (hk : ∀ (β' : List (Option Nat)) (a' : Act) (w' : World), (p = none → ∃ γ, β' = β ++ γ) → (∀ q, p = some q → ∃ b, β' = β.set q (some b)) → FR tn β' (upd o.dst v f) a' → Rel w0 β0 β' h' w' → K a' w') : wpOp P ops Q i K a w := by
  have hdo := dstsOK_get _ hdst i o ho
  rw [outN_some] at hout
  unfold wpOp
  rw [show ops[i]? = some o by simpa using ho]
  dsimp only
  have hw : Region.wanted o (yielded ops a.tmps) = true := by
    unfold Region.wanted
    rw [hb.1]
  rw [hw, if_pos rfl]
  left
  cases p with
  | none =>
    refine op_goes hT hΦ hr (opF_rel hf) o hout K Q fun γ v' w' hr' hv' => hk (β ++ γ) _ w' (fun _ => ⟨γ, rfl⟩) (fun q hq => by cases hq) ((hf.mono γ).put hdo hv') hr'
  | some q =>
    obtain ⟨hal, hq⟩ := hp q rfl
    simp only [opN] at hout
    split at hout
    case h_2 => cases hout
    rename_i g v0 x hop
    cases hout
    obtain ⟨cells, cells', t, mk, e1, e2, e3, e4, e5, _⟩ := al_run hT (opF_rel hf) w o hal hop
    simp only [List.nil_append, List.cons.injEq, and_true] at e1
    subst e1
    unfold Oper.wp
    rw [e2]
    obtain ⟨hx, hrel⟩ := hr.fill hq t e3
    have hlt : q < β.length := (List.getElem?_eq_some_iff.1 hq).1
    exact hk _ _ _ (fun hn => by cases hn) (fun q' hq' => by cases hq'; exact ⟨_, rfl⟩) (FR.put (f := f) ⟨fun d => (hf.reg d).ext hx, hf.size, hf.defers⟩ hdo (e4 _ q _ (by simp [hlt]))) hrel

/-- A region, where its order is drawn. -/
theorem dyn_sound (hpc : pc = true → PureF Φ) (hT : TabOK P T) (hΦ : FnsOK P Φ) {ops : Array Oper} {tn : Nat} (hdst : dstsOK tn ops.toList = true) {e : Env} {h : Hp} (hd : dynOK T M0 Φ pc ops.toList e h = true)
    {w0 w : World} {β0 β : List (Option Nat)} {Q : Exit → Act → World → Prop} {a : Act} {f' : Nat → Value} {h' : Hp} (hrun : runI T M0 Φ ops.toList (List.range' 0 ops.size) (getE e, h) = some (f', h'))
    {listed : Array Bool} (hs : Seen ops listed []) (hf : FR tn β (getE e) a) (hr : Rel w0 β0 β h w)
    (hk : ∀ γ a' w', FR tn (β ++ γ) f' a' → Rel w0 β0 (β ++ γ) h' w' → Q .normal a' w') : wpAny P .any ops Q ops.size listed a w := by
  unfold dynOK at hd
  split at hd
  case h_2 => cases hd
  rename_i ts hts
  have hg := dynAll_get hd rfl rfl
  have hrun' : runI T M0 Φ ops.toList (List.range' 0 ops.toList.length) (getE e, h) = some (f', h') := by rw [Array.length_toList]; exact hrun
  obtain ⟨x, q1, q2, q3, q4, q5, q6⟩ := fpRun_runs (nm := fun i => (ts.getD i (none, .all)).1) (F := fun i => (ts.getD i (none, .all)).2) hpc rfl rfl hts (fun i _ => by rw [Nat.zero_add]; exact ⟨rfl, rfl⟩) hrun'
  have q6' := q6 (List.replicate x ([], 0)) (by simp)
  rw [Array.length_toList] at q6'
  have hx := hr.holes (List.replicate x ([], 0))
  rw [List.length_replicate] at hx
  have hback : Backs ops := fun i o ho e' he' hb' => by
    have := (hg i o ho).1
    rw [Nat.zero_add] at this
    exact edgesBack_lt this e' he' hb'
  have hsaw : ∀ i o, ops.toList[i]? = some o → bare o ∧ ∀ p, (ts.getD i (none, .all)).1 = some p → isAl o.op = true := by
    intro i o ho
    have hlt : i < ts.length := by
      rw [q2]
      exact (List.getElem?_eq_some_iff.1 ho).1
    have ht : ts[i]? = some ts[i] := by simp [hlt]
    have := q3 i o _ ho ht
    refine ⟨this.bare, fun p hp => ?_⟩
    rw [List.getD_eq_getElem?_getD, ht] at hp
    exact (this.name p hp).1
  -- what holds behind the operations X
  let R : List Nat → S → Act → World → Prop := fun X s a w => ∃ γ : List (Option Nat), FR tn (β ++ γ) s.1 a ∧ Rel w0 β0 (β ++ γ) s.2 w ∧ ∀ i, i ∉ X → ∀ p, (ts.getD i (none, .all)).1 = some p → (β ++ γ)[p]? = some none
  refine wpAny_gen (σ := S) (st := stepN T M0 Φ ops.toList fun i => (ts.getD i (none, .all)).1) (run := runN T M0 Φ ops.toList fun i => (ts.getD i (none, .all)).1) (runN_append _ _) (fun _ _ _ => rfl) (fun _ => rfl) hback (R := R)
    (s0 := (getE e, h ++ List.replicate x ([], 0))) (s1 := (f', h')) ?_ (fun Y hn hp hm => ?_) ops.size listed [] _ a w (by simp) hs (by simp) rfl ⟨List.replicate x none, hf.mono _, hx, fun i _ p hp => ?_⟩ fun X' a' w' ⟨γ, h1, h2, _⟩ => hk γ a' w' h1 h2
  · intro X i s s' a w K hiX hi hst ⟨γ, h1, h2, h3⟩ hk'
    have ho : ops.toList[i]? = some ops[i] := by simp [hi]
    unfold stepN at hst
    rw [ho] at hst
    dsimp only at hst
    split at hst
    case h_2 => cases hst
    rename_i v h4 hout
    cases hst
    obtain ⟨hb, hal⟩ := hsaw i _ ho
    refine stepN_sound hT hΦ hdst ho hb hout (fun q hq => ⟨hal q hq, h3 i hiX q hq⟩) h1 h2 fun β' a' w' g1 g2 h1' h2' => ?_
    have hother : ∀ j, j ≠ i → ∀ p, (ts.getD j (none, .all)).1 = some p → (β ++ γ)[p]? = some none → β'[p]? = some none := by
      intro j hj p hp h5
      cases hpi : (ts.getD i (none, .all)).1 with
      | none =>
        obtain ⟨γ'', e1⟩ := g1 hpi
        rw [e1, List.getElem?_append_left (List.getElem?_eq_some_iff.1 h5).1]
        exact h5
      | some q =>
        obtain ⟨b, e1⟩ := g2 q hpi
        rw [e1, List.getElem?_set_ne]
        · exact h5
        · intro e'
          subst e'
          exact hj (q5 j i q hp hpi)
    have hpre : ∃ γ', β' = β ++ γ' := by
      cases hp : (ts.getD i (none, .all)).1 with
      | none =>
        obtain ⟨γ', e1⟩ := g1 hp
        exact ⟨γ ++ γ', by rw [e1, List.append_assoc]⟩
      | some q =>
        obtain ⟨b, e1⟩ := g2 q hp
        have := q4 i q hp
        exact ⟨γ.set (q - β.length) (some b), by rw [e1, List.set_append_right _ _ (by rw [hr.len]; omega)]⟩
    obtain ⟨γ', rfl⟩ := hpre
    refine hk' a' w' ⟨γ', h1', h2', fun j hj p hp => ?_⟩
    exact hother j (fun e' => hj (by simp [e'])) p hp (h3 j (fun hm => hj (by simp [hm])) p hp)
  · refine runN_of_runsT (pc := pc) (F := fun i => (ts.getD i (none, .all)).2) (runs_perm hpc hn ?_ (fun i => ?_) ?_ q6')
    · rw [← List.range_eq_range']; exact List.pairwise_lt_range
    · rw [hm]; simp [List.mem_range']
    · refine hp.imp_of_mem fun {i j} hi hj hne hlt => ?_
      intro x y hx hy
      have hio : ops[i]? = some y := by simpa using hy
      have := (hg i y (by simpa using hy)).2 j x (by omega) (by simpa using hx)
      rcases this with h1 | h1
      · obtain ⟨e', he', hb', hon⟩ := edgeTo_mem h1
        exact absurd hon (hne hlt y hio e' he' hb')
      · exact ⟨h1.1, by simpa using h1.2⟩
  · have := q4 i p hp
    rw [List.getElem?_append_right (by rw [hr.len]; omega), List.getElem?_replicate, if_pos (by rw [hr.len]; omega)]

/-- A region. -/
theorem region_sound (hm : P.follows .mixedOrders = true) (hpc : pc = true → PureF Φ) (hT : TabOK P T) (hΦ : FnsOK P Φ) {ops : Array Oper} {tn id : Nat} {draw : Bool} {e : Env} {h : Hp} (hok : regionOK T M0 Φ pc tn ops.toList draw e h = true)
    {w0 w : World} {β0 β : List (Option Nat)} {Q : Exit → Act → World → Prop} {a : Act} {res : Type} {k : Env → Hp → Option res} {r : res} (hev : evOps T M0 Φ ops.toList ops.toList e h k = some r) (hf : FR tn β (getE e) a) (hr : Rel w0 β0 β h w)
    (hk : ∀ γ e' h' a' w', k e' h' = some r → FR tn (β ++ γ) (getE e') a' → Rel w0 β0 (β ++ γ) h' w' → Q .normal a' w') : (Code.region id ops draw).wp P Q a w := by
  simp only [regionOK, Bool.and_eq_true] at hok
  obtain ⟨hdst, hdr⟩ := hok
  obtain ⟨f', h', e', h1, h2, h3⟩ := evOps_run ops.toList ops.toList 0 e h k r rfl hev
  rw [Array.length_toList] at h1
  have hk' : ∀ γ a' w', FR tn (β ++ γ) f' a' → Rel w0 β0 (β ++ γ) h' w' → Q .normal a' w' := fun γ a' w' hf' hr' => hk γ e' h' a' w' h3 (by rw [h2]; exact hf') hr'
  cases draw with
  | false =>
    refine wp_region ?_
    rw [List.range_eq_range']
    exact wpOps_of_run hT hΦ hdst _ _ _ _ _ _ h1 hf hr hk'
  | true =>
    refine wp_region_any hm ?_
    have hrep : ∀ i, (Array.replicate ops.size false).getD i false = false := fun i => by
      rw [Array.getD_eq_getD_getElem?, Array.getElem?_replicate]
      split <;> simp
    have hseen : Seen ops (Array.replicate ops.size false) [] := ⟨by simp, fun i => by rw [hrep i]; simp, by simp, by simp⟩
    simp only [cond_true, Bool.or_eq_true] at hdr
    rcases hdr with hdr | hdr
    · exact wpAny_of_seen hT hΦ (fun i o ho => (drawOK_spec hdr i o ho).1) hdst (anyOrder_static hpc hdr _) h1 hseen hf (hr.drew _) hk'
    · exact dyn_sound hpc hT hΦ hdst hdr h1 hseen hf (hr.drew _) hk'

end
end Go.Lan

/- What the interpreter computes, a call computes. -/
namespace Go.Lan
open Go.RowKit

def Out.exit' : Out → Exit
  | .norm => .normal
  | .exit id => .exit id
  | .ret => .ret

/-- A loop, from its inside. -/
def loopWp (P : Program) (c : Code) (Q : Exit → Act → World → Prop) (a : Act) (w : World) : Prop :=
  ∀ (b : Frame) (k : List Item) (cs : List Frame), ∃ e a' w', Q e a' w' ∧ Arrives P (lone (b.at a (.code c :: .inLoop c :: k)) cs w) b k cs e a' w'

theorem wp_of_loopWp {P : Program} {c : Code} {Q : Exit → Act → World → Prop} {a : Act} {w : World} (h : loopWp P c Q a w) : (Code.loop c).wp P Q a w := fun b k cs => by
  obtain ⟨e, a', w', hq, harr⟩ := h b k cs
  exact ⟨e, a', w', hq, .of_steps (.one step_loop) harr⟩

theorem loopWp_round {P : Program} {c : Code} {Q : Exit → Act → World → Prop} {a : Act} {w : World} (h : c.wp P (Exit.then (loopWp P c Q) Q) a w) : loopWp P c Q a w := fun b k cs => by
  obtain ⟨e, a₁, w₁, hq, harr⟩ := h b (.inLoop c :: k) cs
  cases e with
  | normal =>
    obtain ⟨e₂, a₂, w₂, hq₂, harr₂⟩ := hq b k cs
    exact ⟨e₂, a₂, w₂, hq₂, .of_steps (Steps.trans harr (.one step_inLoop)) harr₂⟩
  | exit id => exact ⟨_, a₁, w₁, hq, .pass (x := .inLoop c) rfl (fun _ _ => .inl (by simp)) harr⟩
  | goto l => exact ⟨_, a₁, w₁, hq, .pass (x := .inLoop c) rfl (fun _ _ => .inl (by simp)) harr⟩
  | ret => exact ⟨_, a₁, w₁, hq, .pass (x := .inLoop c) rfl (fun _ _ => .inl (by simp)) harr⟩
  | panic ch => exact ⟨_, a₁, w₁, hq, .pass (x := .inLoop c) rfl (fun _ _ => .inl (by simp)) harr⟩
  | outgrown => exact ⟨_, a₁, w₁, hq, .pass (x := .inLoop c) rfl (fun _ _ => .inl (by simp)) harr⟩

section
variable {P : Program} {T : Tab} {Φ : Fns} {pc : Bool}

/-- What must be known of the program. -/
structure Setting (P : Program) (T : Tab) (Φ : Fns) (pc : Bool) : Prop where
  mixed : P.follows .mixedOrders = true
  pure : pc = true → PureF Φ
  tab : TabOK P T
  fns : FnsOK P Φ

/-- What a loop comes to. -/
def LoopSem (P : Program) (tn : Nat) (c : Code) (e : Env) (h : Hp) (x : Nat) (e' : Env) (h' : Hp) : Prop :=
  ∀ (w0 : World) (β0 β : List (Option Nat)) (a : Act) (w : World) (Q : Exit → Act → World → Prop), FR tn β (getE e) a → Rel w0 β0 β h w →
    (∀ γ a' w', FR tn (β ++ γ) (getE e') a' → Rel w0 β0 (β ++ γ) h' w' → Q (.exit x) a' w') → loopWp P c Q a w

def LoopOK (P : Program) (tn : Nat) (Λ : Loops) (c : Code) : Prop :=
  ∀ e h x e' h', Λ (keyOf c) e h = some (true, x, e', h') → LoopSem P tn c e h x e' h'

def LoopsOK (P : Program) (tn : Nat) (Λ : Loops) : List Code → Prop
  | [] => True
  | c :: l => LoopOK P tn Λ c ∧ LoopsOK P tn Λ l

theorem loopsOK_app {tn : Nat} {Λ : Loops} : ∀ {l m : List Code}, LoopsOK P tn Λ (appL l m) → LoopsOK P tn Λ l ∧ LoopsOK P tn Λ m
  | [], _, h => ⟨trivial, h⟩
  | _ :: _, _, h => ⟨⟨h.1, (loopsOK_app h.2).1⟩, (loopsOK_app h.2).2⟩

theorem noLoopsOK {tn : Nat} : ∀ l : List Code, LoopsOK P tn noLoops l
  | [] => trivial
  | _ :: l => ⟨fun _ _ _ _ _ h => (by cases h), noLoopsOK l⟩

/-- e2 says no more than e1. -/
def weakE (e1 e2 : Env) : Prop := ∀ d, getE e2 d = getE e1 d ∨ ∃ k a b, getE e2 d = .complex k a b

theorem FR.weak {tn : Nat} {β : List (Option Nat)} {e1 e2 : Env} {a : Act} (h : FR tn β (getE e1) a) (hw : weakE e1 e2) : FR tn β (getE e2) a :=
  ⟨fun d => by
    rcases hw d with e | ⟨k, x, y, e⟩
    · rw [e]; exact h.reg d
    · rw [e]; exact .unk _ _ _ _, h.size, h.defers⟩

/-! ### Ways that are joined -/
theorem memN_appL {d : Nat} : ∀ {l m : List Nat}, memN (appL l m) d = false → memN l d = false ∧ memN m d = false
  | [], m, h => ⟨rfl, h⟩
  | a :: l, m, h => by
    simp only [appL, memN, Bool.or_eq_false_iff] at h ⊢
    exact ⟨⟨h.1, (memN_appL h.2).1⟩, (memN_appL h.2).2⟩

theorem asPick_of {M : Prims} {ρ : Operand → Value} {h : Hp} {op : Op} {r : Bool × Value × Hp} (hop : opR T M Φ ρ h op = some r) : asPick op = none := by
  cases op <;> first | rfl | (simp [opR] at hop)

theorem mvOps_ev {M : Prims} (hpc : pc = true → PureF Φ) (all : List Oper) {h : Hp} : ∀ (l : List Oper) (e e' : Env), mvOps T M Φ pc l e h = some e' → ∀ {ρ : Type} (k : Env → Hp → Option ρ), evOps T M Φ all l e h k = k e' h
  | [], e, e', hm => fun k => by cases hm; rfl
  | o :: l, e, e', hm => fun k => by
    simp only [mvOps] at hm
    split at hm
    · cases hm
    · rename_i hg
      split at hm
      · cases hm
      · rename_i hb
        split at hm
        · rename_i v h' hop
          have hk : h' = h := opR_keeps hpc (Nat.le_of_ble_eq_true hb) hop
          subst hk
          have ih := mvOps_ev (M := M) hpc all l _ _ hm k
          simp only [evOps, hg, evOne, asPick_of hop, hop, cond_true]
          exact ih
        · cases hm

theorem mvOps_frame {M : Prims} {d : Nat} {h : Hp} : ∀ (l : List Oper) (e e' : Env), mvOps T M Φ pc l e h = some e' → memN (asgOps l) d = false → getE e' d = getE e d
  | [], e, e', hm, _ => by cases hm; rfl
  | o :: l, e, e', hm, hd => by
    simp only [mvOps] at hm
    split at hm
    · cases hm
    · split at hm
      · cases hm
      · split at hm
        · unfold asgOps at hd
          split at hd
          · rename_i d' hd'
            simp only [memN, Bool.or_eq_false_iff] at hd
            rw [mvOps_frame l _ _ hm hd.2, hd', putE, getE_cons, if_neg]
            intro e'
            rw [e'] at hd
            simp at hd
          · rename_i hd'
            rw [mvOps_frame l _ _ hm hd, hd', putE]
        · cases hm

theorem mv_frame {M : Prims} {tn d : Nat} {h : Hp} : ∀ (c : Code) (e e' : Env), mv T M Φ pc tn c e h = some e' → memN (asgs c) d = false → getE e' d = getE e d := by
  intro c
  induction c with
  | skip => intro e e' hm _; cases hm; rfl
  | region id ops dr =>
    intro e e' hm hd
    simp only [mv] at hm
    split at hm
    · exact mvOps_frame _ _ _ hm hd
    · cases hm
  | seq a b iha ihb =>
    intro e e' hm hd
    simp only [mv] at hm
    split at hm
    · rename_i e1 h1
      rw [ihb _ _ hm (memN_appL hd).2, iha _ _ h1 (memN_appL hd).1]
    · cases hm
  | _ => intro e e' hm _; simp [mv] at hm

theorem mv_sound (S : Setting P T Φ pc) {w0 : World} {β0 : List (Option Nat)} {tn : Nat} {h : Hp} : ∀ (c : Code) (e e' : Env), mv T M0 Φ pc tn c e h = some e' →
    ∀ (Q : Exit → Act → World → Prop) (β : List (Option Nat)) (a : Act) (w : World), FR tn β (getE e) a → Rel w0 β0 β h w → (∀ γ a' w', FR tn (β ++ γ) (getE e') a' → Rel w0 β0 (β ++ γ) h w' → Q .normal a' w') → c.wp P Q a w := by
  intro c
  induction c with
  | skip =>
    intro e e' hm Q β a w hf hr hk
    cases hm
    exact wp_skip (hk [] a w (by simpa using hf) (by simpa using hr))
  | region id ops dr =>
    intro e e' hm Q β a w hf hr hk
    simp only [mv] at hm
    split at hm
    · rename_i hok
      refine region_sound S.mixed S.pure S.tab S.fns hok (k := fun e2 h2 => some (e2, h2)) (mvOps_ev S.pure ops.toList ops.toList e e' hm _) hf hr ?_
      intro γ e2 h2 a' w' he hf' hr'
      cases he
      exact hk γ a' w' hf' hr'
    · cases hm
  | seq x y ihx ihy =>
    intro e e' hm Q β a w hf hr hk
    simp only [mv] at hm
    split at hm
    · rename_i e1 h1
      refine wp_seq (ihx _ _ h1 _ β a w hf hr fun γ a' w' hf' hr' => ?_)
      exact ihy _ _ hm _ _ a' w' hf' hr' fun γ' a'' w'' hf'' hr'' => by
        rw [List.append_assoc] at hf'' hr''
        exact hk _ a'' w'' hf'' hr''
    · cases hm
  | _ => intro e e' hm; simp [mv] at hm

def lessV (v u : Value) : Prop := u = v ∨ ∃ k a b, u = .complex k a b

theorem ikEq_eq : ∀ {k k' : IntKind}, ikEq k k' = true → k = k' := by
  intro k k' h
  cases k <;> cases k' <;> first | rfl | (simp [ikEq] at h)

theorem mrg1_less {β : List (Option Nat)} (t : Bool) (a b v : Value) (h : VR β (cond t a b) v) : VR β (mrg1 t a b) v := by
  unfold mrg1
  split
  · rename_i k x k' y
    split
    · rename_i hk
      have := ikEq_eq hk
      subst this
      cases t <;> exact h
    · exact .unk _ _ _ _
  · cases t <;> exact h
  · cases t <;> exact h
  · exact .unk _ _ _ _

theorem mrgL_less {β : List (Option Nat)} (t : Bool) : ∀ (l m v : List Value), lenL l = lenL m → VRL β (cond t l m) v → VRL β (mrgL t l m) v
  | [], [], v, _, h => by cases t <;> exact h
  | [], _ :: _, _, h, _ => by simp [lenL] at h
  | _ :: _, [], _, h, _ => by simp [lenL] at h
  | a :: l, b :: m, v, hl, h => by
    simp only [lenL, Nat.succ.injEq] at hl
    have : VRL β (cond t a b :: cond t l m) v := by cases t <;> exact h
    cases this with
    | cons h1 h2 => exact .cons (mrg1_less t a b _ h1) (mrgL_less t l m _ hl h2)

theorem mrgV_less {β : List (Option Nat)} (t : Bool) (a b v : Value) (h : VR β (cond t a b) v) : VR β (mrgV t a b) v := by
  unfold mrgV
  split
  · rename_i l m
    split
    · rename_i hl
      have h2 : VR β (.agg ⟨cond t l m⟩) v := by cases t <;> exact h
      cases h2 with
      | agg hl2 => exact .agg (mrgL_less t l m _ (Nat.eq_of_beq_eq_true hl) hl2)
    · exact .unk _ _ _ _
  · exact mrg1_less t _ _ v h

theorem getE_mrgE {t : Bool} {e1 e2 e : Env} {d : Nat} : ∀ (l : List Nat), (memN l d = false ∧ getE (mrgE t l e1 e2 e) d = getE e d) ∨ memN l d = true ∧ getE (mrgE t l e1 e2 e) d = mrgV t (getE e1 d) (getE e2 d)
  | [] => .inl ⟨rfl, rfl⟩
  | x :: l => by
    simp only [mrgE, getE_cons, memN]
    by_cases hx : x = d
    · subst hx
      exact .inr ⟨by simp, if_pos rfl⟩
    · rw [if_neg hx]
      rcases getE_mrgE (t := t) (e1 := e1) (e2 := e2) (e := e) (d := d) l with ⟨h1, h2⟩ | ⟨h1, h2⟩
      · refine .inl ⟨?_, h2⟩
        rw [h1, Bool.or_false]
        cases hb : Nat.beq x d with
        | true => exact absurd (Nat.eq_of_beq_eq_true hb) hx
        | false => rfl
      · exact .inr ⟨by rw [h1, Bool.or_true], h2⟩

theorem FR.join {tn : Nat} {β : List (Option Nat)} {t : Bool} {l : List Nat} {e1 e2 e : Env} {a : Act} (h : FR tn β (getE (cond t e1 e2)) a) (h1 : ∀ d, memN l d = false → getE (cond t e1 e2) d = getE e d) : FR tn β (getE (mrgE t l e1 e2 e)) a :=
  ⟨fun d => by
    have hd := h.reg d
    rcases getE_mrgE (t := t) (e1 := e1) (e2 := e2) (e := e) (d := d) l with ⟨hm, he⟩ | ⟨_, he⟩
    · rw [he, ← h1 d hm]
      exact hd
    · rw [he]
      refine mrgV_less t _ _ _ ?_
      cases t <;> exact hd, h.size, h.defers⟩

theorem ev_sound (S : Setting P T Φ pc) {w0 : World} {β0 : List (Option Nat)} {tn : Nat} {Λ : Loops} {res : Type} {r : res} : ∀ n : Nat,
    (∀ (c : Code) (e : Env) (h : Hp) (k : Out → Env → Hp → Option res) (Q : Exit → Act → World → Prop) (β : List (Option Nat)) (a : Act) (w : World), ev T M0 Φ Λ pc tn n c e h k = some r → LoopsOK P tn Λ (loopsOf c) → FR tn β (getE e) a → Rel w0 β0 β h w →
      (∀ γ o e' h' a' w', k o e' h' = some r → FR tn (β ++ γ) (getE e') a' → Rel w0 β0 (β ++ γ) h' w' → Q o.exit' a' w') → c.wp P Q a w) ∧
    (∀ (c : Code) (e : Env) (h : Hp) (k : Out → Env → Hp → Option res) (Q : Exit → Act → World → Prop) (β : List (Option Nat)) (a : Act) (w : World), ev T M0 Φ Λ pc tn n (.loop c) e h k = some r → LoopsOK P tn Λ (c :: loopsOf c) → FR tn β (getE e) a → Rel w0 β0 β h w →
      (∀ γ o e' h' a' w', k o e' h' = some r → FR tn (β ++ γ) (getE e') a' → Rel w0 β0 (β ++ γ) h' w' → Q o.exit' a' w') → loopWp P c Q a w)
  | 0 => ⟨fun c e h k Q β a w hev => by simp [ev] at hev, fun c e h k Q β a w hev => by simp [ev] at hev⟩
  | n + 1 => by
    obtain ⟨ih, ihl⟩ := ev_sound S (w0 := w0) (β0 := β0) (tn := tn) (Λ := Λ) (r := r) n
    have loop : ∀ (c : Code) (e : Env) (h : Hp) (k : Out → Env → Hp → Option res) (Q : Exit → Act → World → Prop) (β : List (Option Nat)) (a : Act) (w : World), ev T M0 Φ Λ pc tn (n + 1) (.loop c) e h k = some r → LoopsOK P tn Λ (c :: loopsOf c) → FR tn β (getE e) a → Rel w0 β0 β h w →
      (∀ γ o e' h' a' w', k o e' h' = some r → FR tn (β ++ γ) (getE e') a' → Rel w0 β0 (β ++ γ) h' w' → Q o.exit' a' w') → loopWp P c Q a w := by
      intro c e h k Q β a w hev hl hf hr hk
      simp only [ev] at hev
      split at hev
      · rename_i g x e' h' hΛ
        obtain ⟨rfl, hk'⟩ := cond_some hev
        exact hl.1 e h x e' h' hΛ w0 β0 β a w Q hf hr fun γ a' w' hf' hr' => hk γ (.exit x) e' h' a' w' hk' hf' hr'
      refine loopWp_round (ih c e h _ _ β a w hev hl.2 hf hr fun γ o e' h' a' w' hk' hf' hr' => ?_)
      cases o with
      | norm =>
        exact ihl c e' h' k Q _ a' w' hk' hl hf' hr' fun γ' o e'' h'' a'' w'' hk'' hf'' hr'' => by
          rw [List.append_assoc] at hf'' hr''
          exact hk _ o e'' h'' a'' w'' hk'' hf'' hr''
      | exit id => exact hk γ (.exit id) e' h' a' w' hk' hf' hr'
      | ret => exact hk γ .ret e' h' a' w' hk' hf' hr'
    refine ⟨fun c e h k Q β a w hev hl hf hr hk => ?_, loop⟩
    cases c with
    | skip =>
      simp only [ev] at hev
      exact wp_skip (hk [] .norm e h a w hev (by simpa using hf) (by simpa using hr))
    | region id ops d =>
      simp only [ev] at hev
      split at hev
      · rename_i hok
        exact region_sound S.mixed S.pure S.tab S.fns hok hev hf hr fun γ e' h' a' w' hk' hf' hr' => hk γ .norm e' h' a' w' hk' hf' hr'
      · cases hev
    | seq x y =>
      simp only [ev] at hev
      obtain ⟨hl1, hl2⟩ := loopsOK_app hl
      refine wp_seq (ih x e h _ _ β a w hev hl1 hf hr fun γ o e' h' a' w' hk' hf' hr' => ?_)
      cases o with
      | norm =>
        exact ih y e' h' k Q _ a' w' hk' hl2 hf' hr' fun γ' o e'' h'' a'' w'' hk'' hf'' hr'' => by
          rw [List.append_assoc] at hf'' hr''
          exact hk _ o e'' h'' a'' w'' hk'' hf'' hr''
      | exit id => exact hk γ (.exit id) e' h' a' w' hk' hf' hr'
      | ret => exact hk γ .ret e' h' a' w' hk' hf' hr'
    | cond x y z =>
      simp only [ev] at hev
      split at hev
      · rename_i t ht
        have hx := opF_rel hf x
        rw [← opv_eq, ht] at hx
        generalize hv : a.eval x = v at hx
        cases hx
        split at hev
        rotate_left
        · split at hev
          · rename_i e1 e2 m1 m2
            refine wp_cond_split hv (fun hc => ?_) (fun hc => ?_)
            · subst hc
              exact mv_sound S _ _ _ m1 Q β a w (by rw [getE_refine ht]; exact hf) hr fun γ a' w' hf' hr' => hk γ .norm _ h a' w' hev (FR.join (t := true) hf' fun d hd => (mv_frame _ _ _ m1 (memN_appL hd).1).trans (by rw [getE_refine ht])) hr'
            · subst hc
              exact mv_sound S _ _ _ m2 Q β a w (by rw [getE_refine ht]; exact hf) hr fun γ a' w' hf' hr' => hk γ .norm _ h a' w' hev (FR.join (t := false) hf' fun d hd => (mv_frame _ _ _ m2 (memN_appL hd).2).trans (by rw [getE_refine ht])) hr'
          · cases hev
        refine wp_cond_split hv (fun hc => ?_) (fun hc => ?_)
        · subst hc
          exact ih y _ h k Q β a w hev (loopsOK_app hl).1 (by rw [getE_refine ht]; exact hf) hr hk
        · subst hc
          exact ih z _ h k Q β a w hev (loopsOK_app hl).2 (by rw [getE_refine ht]; exact hf) hr hk
      · cases hev
    | block id x =>
      simp only [ev] at hev
      refine wp_block (ih x e h _ _ β a w hev hl hf hr fun γ o e' h' a' w' hk' hf' hr' => ?_)
      cases o with
      | norm => exact hk γ .norm e' h' a' w' hk' hf' hr'
      | exit j =>
        dsimp only at hk'
        split at hk'
        · rename_i hj
          have : j = id := Nat.eq_of_beq_eq_true hj
          simp only [Out.exit', Exit.inBlock, this, if_true]
          exact hk γ .norm e' h' a' w' hk' hf' hr'
        · rename_i hj
          have : j ≠ id := fun e => by rw [e] at hj; simp at hj
          simp only [Out.exit', Exit.inBlock, this, if_false]
          exact hk γ (.exit j) e' h' a' w' hk' hf' hr'
      | ret => exact hk γ .ret e' h' a' w' hk' hf' hr'
    | loop x => exact wp_of_loopWp (loop x e h k Q β a w hev hl hf hr hk)
    | exit id =>
      simp only [ev] at hev
      exact wp_exit (hk [] (.exit id) e h a w hev (by simpa using hf) (by simpa using hr))
    | ret =>
      simp only [ev] at hev
      exact wp_ret (hk [] .ret e h a w hev (by simpa using hf) (by simpa using hr))
    | _ => simp [ev] at hev

/-! ### Values without memory -/
def npV : Value → Bool
  | .agg ⟨l⟩ => l.all plainV
  | v => plainV v
def npR : Value → Bool
  | .tuple ⟨l⟩ => l.all npV
  | v => npV v

/-- A value that stands for itself alone. -/
def exV : Value → Bool
  | .float _ n => !Nat.beq n nanW
  | v => plainV v
theorem ex_plain {v : Value} (h : exV v = true) : plainV v = true := by
  unfold exV at h
  split at h
  · rfl
  · exact h
theorem exs_plain : ∀ {l : List Value}, l.all exV = true → l.all plainV = true
  | [], _ => rfl
  | v :: l, h => by
    simp only [List.all_cons, Bool.and_eq_true] at h ⊢
    exact ⟨ex_plain h.1, exs_plain h.2⟩
theorem ex_eq {β : List (Option Nat)} {v v' : Value} (h : exV v = true) (hr : VR β v v') : v' = v := by
  cases hr with
  | func f h1 h2 => cases h1 <;> cases h2 <;> first | rfl | simp [exV, plainV] at h
  | nan _ => simp [exV, nanW] at h
  | _ => first | rfl | simp [exV, plainV] at h
theorem exs_eq {β : List (Option Nat)} : ∀ {l l' : List Value}, l.all exV = true → VRL β l l' → l' = l
  | _, _, _, .nil => rfl
  | _, _, h, .cons hv ht => by
    simp only [List.all_cons, Bool.and_eq_true] at h
    rw [ex_eq h.1 hv, exs_eq h.2 ht]

/-- Of a value without memory it doesn't matter what blocks stand for. -/
theorem plain_to {β γ : List (Option Nat)} {v v' : Value} (h : plainV v = true) (hr : VR β v v') : VR γ v v' := by
  cases hr with
  | func f h1 h2 => cases h1 <;> cases h2 <;> first | exact .func f .nil .nil | simp [plainV] at h
  | _ => first | (constructor; done) | (constructor; assumption) | simp [plainV] at h
theorem plains_to {β γ : List (Option Nat)} : ∀ {l l' : List Value}, l.all plainV = true → VRL β l l' → VRL γ l l'
  | _, _, _, .nil => .nil
  | _, _, h, .cons hv ht => by
    simp only [List.all_cons, Bool.and_eq_true] at h
    exact .cons (plain_to h.1 hv) (plains_to h.2 ht)
theorem npV_to {β γ : List (Option Nat)} {v v' : Value} (h : npV v = true) (hr : VR β v v') : VR γ v v' := by
  cases hr with
  | agg hl => exact .agg (plains_to h hl)
  | func f h1 h2 => exact plain_to h (.func f h1 h2)
  | _ => first | (constructor; done) | (constructor; assumption) | simp [npV, plainV] at h
theorem npVs_to {β γ : List (Option Nat)} : ∀ {l l' : List Value}, l.all npV = true → VRL β l l' → VRL γ l l'
  | _, _, _, .nil => .nil
  | _, _, h, .cons hv ht => by
    simp only [List.all_cons, Bool.and_eq_true] at h
    exact .cons (npV_to h.1 hv) (npVs_to h.2 ht)
theorem npR_to {β γ : List (Option Nat)} {v v' : Value} (h : npR v = true) (hr : VR β v v') : VR γ v v' := by
  cases hr with
  | tuple hl => exact .tuple (npVs_to h hl)
  | agg hl => exact npV_to h (.agg hl)
  | func f h1 h2 => exact plain_to h (.func f h1 h2)
  | _ => first | (constructor; done) | (constructor; assumption) | simp [npR, npV, plainV] at h
theorem npV_rel {β : List (Option Nat)} (v : Value) (h : npV v = true) : VR β v v := by
  unfold npV at h
  split at h
  · exact .agg (plainL_rel _ h)
  · exact plainV_rel v h
theorem npVs_rel {β : List (Option Nat)} : ∀ l : List Value, l.all npV = true → VRL β l l
  | [], _ => .nil
  | v :: l, h => by
    simp only [List.all_cons, Bool.and_eq_true] at h
    exact .cons (npV_rel v h.1) (npVs_rel l h.2)
theorem npR_rel {β : List (Option Nat)} (v : Value) (h : npR v = true) : VR β v v := by
  unfold npR at h
  split at h
  · exact .tuple (npVs_rel _ h)
  · exact npV_rel v h

theorem exs_np : ∀ {l : List Value}, l.all exV = true → l.all npV = true
  | [], _ => rfl
  | v :: l, h => by
    simp only [List.all_cons, Bool.and_eq_true] at h ⊢
    have h1 := ex_plain h.1
    refine ⟨?_, exs_np h.2⟩
    unfold npV
    split
    · simp [plainV] at h1
    · exact h1

/-! ### Functions that turn no memory but their own -/
/-- A slice with what it holds. -/
def slV : Value → Bool
  | .tuple ⟨.int .i64 (.ofNat _) :: .int .i64 (.ofNat _) :: .int .i64 (.ofNat _) :: cells⟩ => cells.all exV
  | _ => false

def dpV (v : Value) : Bool := npV v || slV v

/-- What the machine has for such a value. -/
inductive DR (w : World) : Value → Value → Prop
  | np {v v' : Value} (h : npV v = true) (hr : VR [] v v') : DR w v v'
  | sl {t : TypeId} {n c b : Nat} {cells : List Value} (h : w.heap[b]? = some (.cells ⟨cells⟩ t (0, 0))) (hc : cells.all exV = true) : DR w (.tuple ⟨.int .i64 (t : Nat) :: .int .i64 n :: .int .i64 c :: cells⟩) (.slice (some ⟨b, 0, none⟩) n c)

inductive DRL (w : World) : List Value → List Value → Prop
  | nil : DRL w [] []
  | cons {v v' : Value} {l l' : List Value} (h : DR w v v') (t : DRL w l l') : DRL w (v :: l) (v' :: l')

theorem DRL.np {w : World} : ∀ {l l' : List Value}, l.all npV = true → VRL [] l l' → DRL w l l'
  | [], _, _, .nil => .nil
  | v :: l, _, h, .cons hv ht => by
    simp only [List.all_cons, Bool.and_eq_true] at h
    exact .cons (.np h.1 hv) (.np h.2 ht)

theorem DRL.of_np {w : World} : ∀ {l l' : List Value}, l.all npV = true → DRL w l l' → VRL [] l l'
  | _, _, _, .nil => .nil
  | _, _, h, .cons (.np _ hv) t => by
    simp only [List.all_cons, Bool.and_eq_true] at h
    exact .cons hv (DRL.of_np h.2 t)
  | _, _, h, .cons (.sl _ _) t => by simp [npV, plainV] at h

/-- The call hands back just this, and leaves all memory that was there as it was. -/
structure PureOK (P : Program) (f : FuncId) (args : List Value) (v : Value) : Prop where
  call : ∀ w args', DRL w args args' → CallOK P f ⟨args'⟩ w fun v' w' => VR [] v v' ∧ Below w.heap.size w w'

def PureFns (P : Program) (Φ : FuncId → List Value → Option (Bool × Value)) : Prop :=
  ∀ f args v, Φ f args = some (true, v) → args.all dpV = true ∧ npR v = true ∧ PureOK P f args v

theorem Rel.below {w w' : World} {β : List (Option Nat)} {h : Hp} (r : Rel w β β h w) (b : Below w.heap.size w w') : Rel w β β h w' :=
  ⟨r.len, r.inj, fun i cells t k hi hk => by
    obtain ⟨c, h1, h2⟩ := r.blk i cells t k hi hk
    exact ⟨c, by rw [b.block k (r.bound k (List.mem_of_getElem? hk))]; exact h1, h2⟩, r.fresh, fun k hk _ => b.block k hk, b.size, b.os, b.tape, b.output⟩

theorem deep1_rel {w0 w : World} {β0 β : List (Option Nat)} {h : Hp} (r : Rel w0 β0 β h w) {v v' : Value} (hd : dpV (deep1 h v) = true) (hv : VR β v v') : DR w (deep1 h v) v' := by
  have plain : ∀ u, npV u = true → VR β u v' → DR w u v' := fun u h1 h2 => .np h1 (npV_to h1 h2)
  unfold deep1 at hd ⊢
  split
  · rename_i b n c
    split
    · rename_i cells t hb
      simp only [hb] at hd
      have hc : cells.all exV = true := by simpa [dpV, npV, plainV, slV] using hd
      cases hv with
      | slice o l c hg =>
        rw [nth_eq] at hb
        obtain ⟨cells', h1, h2⟩ := r.blk _ _ _ _ hb hg
        rw [exs_eq hc h2] at h1
        exact .sl h1 hc
    · rename_i hb
      simp only [hb] at hd
      simp [dpV, npV, plainV, slV] at hd
  · simp [dpV, npV, plainV, slV] at hd
  · rename_i hn ht
    have hd' : dpV v = true := by
      split at hd
      · exact absurd rfl (hn _ _ _)
      · exact absurd rfl (ht _)
      · exact hd
    simp only [dpV, Bool.or_eq_true] at hd'
    rcases hd' with h1 | h1
    · exact plain v h1 hv
    · unfold slV at h1
      split at h1
      · exact absurd rfl (ht _)
      · cases h1

theorem fnsOK_pure {Φp : FuncId → List Value → Option (Bool × Value)} (hΦ : PureFns P Φp) : FnsOK P (pureFns Φp) := by
  intro f args h v h' hf β w args' hr hargs
  unfold pureFns at hf
  split at hf
  · rename_i g u hu
    cases hf
    obtain ⟨h1, h2, h3⟩ := hΦ _ _ _ hu
    have hdr : ∀ {l l' : List Value}, (deepA h l).all dpV = true → VRL β l l' → DRL w (deepA h l) l' := by
      intro l l' ha hv
      induction hv using VRL.rec (motive_1 := fun _ _ _ => True) with
      | nil => exact .nil
      | cons h4 h5 _ ih =>
        simp only [deepA, List.all_cons, Bool.and_eq_true] at ha
        exact .cons (deep1_rel hr ha.1 h4) (ih ha.2)
      | _ => trivial
    refine (h3.call w _ (hdr h1 hargs)).mono fun v' w' ⟨hv, hb⟩ => ⟨[], ?_, ?_⟩
    · rw [List.append_nil]; exact hr.below hb
    · exact npR_to h2 hv
  · cases hf

theorem deepA_congr {h h2 : Hp} : ∀ {l : List Value}, (∀ b ∈ blks l, nth h2 b = nth h b) → deepA h2 l = deepA h l
  | [], _ => rfl
  | v :: l, hb => by
    simp only [blks, appL_eq, List.mem_append] at hb
    simp only [deepA, deepA_congr fun b hm => hb b (.inr hm)]
    congr 1
    unfold deep1
    split
    · rename_i b n c
      rw [hb b (.inl (by simp [blks1]))]
    · rfl
    · rfl

theorem pureF_pure (Φp : FuncId → List Value → Option (Bool × Value)) : PureF (pureFns Φp) := by
  intro f args h h2 hb
  unfold pureFns
  rw [deepA_congr hb]
  cases Φp f (deepA h args) with
  | none => rfl
  | some p => rfl

theorem getE_args : ∀ (args : List Value) (i d : Nat), getE (argsE i args) d = if i ≤ d then (args[d - i]?).getD undef else undef
  | [], i, d => by simp [argsE, getE, undef]
  | v :: args, i, d => by
    rw [argsE, getE_cons, getE_args args (i + 1) d]
    by_cases h1 : i = d
    · subst h1; simp
    · rw [if_neg h1]
      by_cases h2 : i ≤ d
      · rw [if_pos h2, if_pos (by omega), show d - i = (d - (i + 1)) + 1 by omega]; simp
      · rw [if_neg h2, if_neg (by omega)]

theorem resV_sound (hT : TabOK P T) {tn : Nat} {β β0 : List (Option Nat)} {w0 w : World} {e : Env} {h : Hp} {a : Act} (hf : FR tn β (getE e) a) (hr : Rel w0 β0 β h w) : ∀ (l : List ResultVar) (vs : List Value), resVs T e h l = some vs →
    ∃ vs', ((l.mapM fun (r : ResultVar) => (match r with
      | .tmp t => pure (a.tmps.getD t undef)
      | .cell x t => do loadVar t (← asAddr (a.tmps.getD x undef)) : Sem Value)).run P w) = .ok vs' w ∧ VRL β vs vs'
  | [], vs, hv => by
    simp only [resVs, Option.some.injEq] at hv
    subst hv
    exact ⟨[], rfl, .nil⟩
  | r :: l, vs, hv => by
    simp only [resVs] at hv
    split at hv
    · rename_i v h1
      split at hv
      · rename_i us h2
        cases hv
        obtain ⟨us', e1, e2⟩ := resV_sound hT hf hr l us h2
        have hone : ∃ v', ((match r with
            | .tmp t => pure (a.tmps.getD t undef)
            | .cell x t => do loadVar t (← asAddr (a.tmps.getD x undef)) : Sem Value).run P w) = .ok v' w ∧ VR β v v' := by
          cases r with
          | tmp t =>
            simp only [resV, Option.some.injEq] at h1
            subst h1
            exact ⟨_, rfl, hf.reg t⟩
          | cell x t =>
            simp only [resV] at h1
            split at h1
            · rename_i ti ht
              split at h1
              · rename_i b off hx
                split at h1
                · rename_i cells t' hb
                  obtain ⟨info, d, z, hi, hd, hz, hs, hzl, hk, _, hpl⟩ := hT _ _ ht
                  have hxr := hf.reg x
                  rw [hx] at hxr
                  obtain ⟨g, cells', e, _, hg, hc⟩ := ptr_block hr hxr hb
                  obtain ⟨v', q1, q2⟩ := load_run hi hd hs hk hg hc h1
                  exact ⟨v', by simp only [e, asAddr]; simp [q1], q2⟩
                · cases h1
              · cases h1
            · cases h1
        obtain ⟨v', f1, f2⟩ := hone
        refine ⟨v' :: us', ?_, .cons f2 e2⟩
        rw [List.mapM_cons, Sem.run_bind, f1, Result.andThen_ok, Sem.run_bind, e1]
        rfl
      · cases hv
    · cases hv

theorem results_sound (hT : TabOK P T) {tn : Nat} {β β0 : List (Option Nat)} {w0 w : World} {e : Env} {h : Hp} {a : Act} (hf : FR tn β (getE e) a) (hr : Rel w0 β0 β h w) (fn : Func) (vs : List Value) (hv : resVs T e h fn.results.toList = some vs) :
    ∃ v', (results fn a.tmps).run P w = .ok v' w ∧ VR β (oneOf vs) v' := by
  obtain ⟨vs', h1, h2⟩ := resV_sound hT hf hr _ _ hv
  have hm : (fn.results.mapM fun (r : ResultVar) => (match r with
      | .tmp t => pure (a.tmps.getD t undef)
      | .cell x t => do loadVar t (← asAddr (a.tmps.getD x undef)) : Sem Value)).run P w = .ok ⟨vs'⟩ w := by
    rw [Array.mapM_eq_mapM_toList, Sem.run_map, h1]
    rfl
  refine ⟨if h : (⟨vs'⟩ : Array Value).size = 1 then (⟨vs'⟩ : Array Value)[0] else .tuple ⟨vs'⟩, ?_, ?_⟩
  · unfold results
    rw [Sem.run_bind]
    exact congrArg (fun (r : Result (Array Value)) => r.andThen fun a w' => Sem.run P (pure (if h : a.size = 1 then a[0] else Value.tuple a)) w') hm
  · cases h2 with
    | nil => exact .tuple .nil
    | cons q1 q2 =>
      cases q2 with
      | nil => simpa [oneOf] using q1
      | cons q3 q4 =>
        rw [dif_neg (by simp)]
        exact .tuple (.cons q1 (.cons q3 q4))

/-- A call as any operation meets it. -/
theorem callOK_of_calls {f : FuncId} {fn : Func} {args : Array Value} {w : World} {R : Value → World → Prop} (hf : P.funcs[f]? = some fn) (hb : fn.body.isNone = false) (hn : (fn.name == "runtime.NumGoroutine") = false)
    (h : Calls P f args w fun e w' => ∃ v, e = .returned v ∧ R v w') : CallOK P f args w R := by
  intro o a K Q hk
  have hrun : (callFunc f args).run P w = .ok (.enter f args) w := by
    simp only [callFunc, Sem.run_bind, run_program, Result.andThen_ok, hf, hn, hb, Bool.false_eq_true, if_false]
    rfl
  rw [hrun, Oper.upon_enter]
  refine h.mono fun e w' ⟨v, he, hv⟩ => ?_
  subst he
  exact hk v w' hv

/-- The arguments in the machine, and the blocks that they hold. -/
theorem openA_rel {w : World} : ∀ (args args' : List Value) (k : Nat) (β1 : List (Option Nat)), args.all dpV = true → DRL w args args' → β1.length = k →
    ∃ β : List Nat, β.length = (openA k args).2.length ∧ (∀ γ, VRL (β1 ++ β.map some ++ γ) (openA k args).1 args') ∧
      ∀ (i b : Nat) (cells : List Value) (t : TypeId), (openA k args).2[i]? = some (cells, t) → β[i]? = some b → w.heap[b]? = some (.cells ⟨cells⟩ t (0, 0)) ∧ cells.all exV = true
  | [], _, k, β1, _, .nil, _ => ⟨[], rfl, fun _ => .nil, fun i b cells t h => by simp [openA] at h⟩
  | v :: args, _, k, β1, ha, .cons hv ht, hk => by
    simp only [List.all_cons, Bool.and_eq_true] at ha
    cases hv with
    | np h hvr =>
      have e : openA k (v :: args) = (v :: (openA k args).1, (openA k args).2) := by
        rw [openA]
        intro t n c cells e
        subst e
        simp [npV, plainV] at h
      rw [e]
      obtain ⟨β, h1, h2, h3⟩ := openA_rel args _ k β1 ha.2 ht hk
      exact ⟨β, h1, fun γ => .cons (npV_to h hvr) (h2 γ), h3⟩
    | sl hb hc =>
      rename_i t n c b cells
      obtain ⟨β, h1, h2, h3⟩ := openA_rel args _ (k + 1) (β1 ++ [some b]) ha.2 ht (by simp [hk])
      refine ⟨b :: β, by simp [openA, h1], fun γ => ?_, fun i b' cells' t' hi hb' => ?_⟩
      · refine .cons (.slice 0 n c ?_) ?_
        · rw [List.append_assoc, List.getElem?_append_right (by omega)]
          simp [hk]
        · have := h2 γ
          simpa using this
      · cases i with
        | zero =>
          simp [openA] at hi hb'
          obtain ⟨rfl, rfl⟩ := hi
          subst hb'
          exact ⟨hb, hc⟩
        | succ i => exact h3 i b' cells' t' (by simpa [openA] using hi) (by simpa using hb')

theorem evP_calls (hm : P.follows .mixedOrders = true) (hT : TabOK P T) {Φp : FuncId → List Value → Option (Bool × Value)} (hΦ : PureFns P Φp) {f : FuncId} {fn : Func} (hf : P.funcs[f]? = some fn)
    {Λ : Loops} {c : Code} (hc : fn.body = some c) (hl : LoopsOK P fn.ntmps Λ (loopsOf c)) {n : Nat} {args : List Value} {v : Value} {h1 : Hp} (hargs : args.all dpV = true) (hone : (openA 0 args).2.length ≤ 1) (hv' : h1 = (openA 0 args).2) (hv : npR v = true) (hev : evP T M0 Φp Λ n fn args = some (v, h1)) : ∀ w args', DRL w args args' → Calls P f ⟨args'⟩ w fun e w' => ∃ v', e = .returned v' ∧ VR [] v v' ∧ Below w.heap.size w w' := by
  intro w args' hdr
  unfold evP at hev
  rw [hc] at hev
  dsimp only at hev
  have hone' : (openA 0 args).2.length ≤ 1 := hone
  obtain ⟨β, hβ1, hβ2, hβ3⟩ := openA_rel args args' 0 [] hargs hdr rfl
  generalize hoa : openA 0 args = oa at hev hβ1 hβ2 hβ3 hv' hone'
  obtain ⟨as, h0⟩ := oa
  dsimp only at hev hβ1 hβ2 hβ3 hv' hone'
  refine calls_of_wp hf hc ?_
  have S : Setting P T (pureFns Φp) true := ⟨hm, fun _ => pureF_pure Φp, hT, fnsOK_pure hΦ⟩
  refine (ev_sound S (w0 := w) (β0 := β.map some) (tn := fn.ntmps) n).1 c _ _ _ _ (β.map some) _ w hev hl ?_ ?_ ?_
  · have has : VRL (β.map some) as args' := by simpa using hβ2 []
    refine ⟨fun d => ?_, ?_, rfl⟩
    · rw [getE_args, if_pos (Nat.zero_le _), Nat.sub_zero, Array.getD_eq_getD_getElem?]
      have hlen := has.length
      rcases Nat.lt_or_ge d as.length with hlt | hge
      · rw [Array.getElem?_append_left (by simp [hlen]; exact hlt)]
        obtain ⟨x, hx1, hx2⟩ := has.get d (List.getElem?_eq_getElem hlt)
        simp only [List.getElem?_toArray, hx1, List.getElem?_eq_getElem hlt, Option.getD_some]
        exact hx2
      · rw [List.getElem?_eq_none hge, Array.getElem?_append_right (by simp [hlen]; exact hge), Array.getElem?_replicate]
        split <;> exact .tuple .nil
    · have hlen := has.length
      simp; omega
  · refine ⟨by simp [hβ1], ?_, ?_, fun _ hb => .inl hb, fun _ _ _ => rfl, Nat.le_refl _, rfl, rfl, rfl⟩
    · intro i j b hi hj
      have h1 := (List.getElem?_eq_some_iff.1 hi).1
      have h2 := (List.getElem?_eq_some_iff.1 hj).1
      simp at h1 h2
      omega
    · intro i cells t b hi hb
      obtain ⟨h1, h2⟩ := hβ3 i b cells t hi (by simpa using hb)
      exact ⟨cells, h1, plainL_rel _ (exs_plain h2)⟩
  · intro γ o e' h' a' w' hk hf' hr'
    have hfin : ∃ l, resVs T e' h' fn.results.toList = some l ∧ oneOf l = v ∧ takeL (lenL h0) h' = h0 ∧ (o = .norm ∨ o = .ret) := by
      cases o with
      | exit id => cases hk
      | norm =>
        dsimp only at hk
        split at hk
        · rename_i l hl
          simp only [Option.some.injEq, Prod.mk.injEq] at hk
          exact ⟨l, hl, hk.1, by rw [hk.2]; exact hv', .inl rfl⟩
        · cases hk
      | ret =>
        dsimp only at hk
        split at hk
        · rename_i l hl
          simp only [Option.some.injEq, Prod.mk.injEq] at hk
          exact ⟨l, hl, hk.1, by rw [hk.2]; exact hv', .inr rfl⟩
        · cases hk
    obtain ⟨l, hl, rfl, hh, ho⟩ := hfin
    obtain ⟨v', h1, h2⟩ := results_sound hT hf' hr' fn l hl
    have hveq : VR [] (oneOf l) v' := npR_to hv h2
    have hb : Below w.heap.size w w' := ⟨hr'.os, hr'.tape, hr'.output, hr'.size, fun k hk' => by
      by_cases hm' : some k ∈ β.map some ++ γ
      · rcases hr'.fresh k hm' with h3 | h3
        · simp at h3
          obtain ⟨i, hi, e⟩ := List.getElem_of_mem h3
          have hi0 : i < h0.length := by rw [← hβ1]; exact hi
          have hik : β[i]? = some k := by rw [List.getElem?_eq_getElem hi, e]
          have hh0 : h0[i]? = some (h0[i].1, h0[i].2) := by rw [List.getElem?_eq_getElem hi0]
          obtain ⟨g1, g2⟩ := hβ3 i k _ _ hh0 hik
          have hh' : h'[i]? = some (h0[i].1, h0[i].2) := by
            rw [takeL_eq, lenL_eq] at hh
            have : (h'.take h0.length)[i]? = some (h0[i].1, h0[i].2) := by rw [hh]; exact hh0
            rw [List.getElem?_take, if_pos hi0] at this
            exact this
          obtain ⟨cells', g3, g4⟩ := hr'.blk i _ _ k hh' (by rw [List.getElem?_append_left (by simpa using hi)]; simpa using hik)
          rw [g1, g3, exs_eq g2 g4]
        · omega
      · exact hr'.frame k hk' hm'⟩
    have hpost : a'.defers = [] ∧ ∃ v, (results fn a'.tmps).run P w' = .ok v w' ∧ ∃ v_1, Ending.returned v = Ending.returned v_1 ∧ VR [] (oneOf l) v_1 ∧ Below w.heap.size w w' :=
      ⟨hf'.defers, _, h1, _, rfl, hveq, hb⟩
    rcases ho with rfl | rfl
    · exact hpost
    · exact hpost


theorem evP_sound (hm : P.follows .mixedOrders = true) (hT : TabOK P T) {Φp : FuncId → List Value → Option (Bool × Value)} (hΦ : PureFns P Φp) {f : FuncId} {fn : Func} (hf : P.funcs[f]? = some fn) (hn : (fn.name == "runtime.NumGoroutine") = false)
    {Λ : Loops} {c : Code} (hc : fn.body = some c) (hl : LoopsOK P fn.ntmps Λ (loopsOf c)) {n : Nat} {args : List Value} {v : Value} {h1 : Hp} (hargs : args.all dpV = true) (hone : (openA 0 args).2.length ≤ 1) (hv' : h1 = (openA 0 args).2) (hv : npR v = true) (hev : evP T M0 Φp Λ n fn args = some (v, h1)) : PureOK P f args v :=
  ⟨fun w args' hdr => callOK_of_calls hf (by rw [hc]; rfl) hn (evP_calls hm hT hΦ hf hc hl hargs hone hv' hv hev w args' hdr)⟩

end
end Go.Lan

/- Loops: what they come to, by an invariant. Library functions without a body. -/
namespace Go.Lan
open Go.RowKit

def keysIn (ks : List Nat) : Env → Bool
  | [] => true
  | (k, _) :: e => memN ks k && keysIn ks e

theorem getE_out {ks : List Nat} {d : Nat} (hd : memN ks d = false) : ∀ {e : Env}, keysIn ks e = true → getE e d = .tuple #[]
  | [], _ => rfl
  | (k, v) :: e, h => by
    simp only [keysIn, Bool.and_eq_true] at h
    rw [getE_cons, if_neg, getE_out hd h.2]
    intro e'
    subst e'
    rw [h.1] at hd
    cases hd

/-- At each of these slots. -/
def weakAt (e1 e2 : Env) : List Nat → Prop
  | [] => True
  | d :: l => (getE e2 d = getE e1 d ∨ ∃ k a b, getE e2 d = .complex k a b) ∧ weakAt e1 e2 l

theorem weakAt_mem {e1 e2 : Env} : ∀ {l : List Nat}, weakAt e1 e2 l → ∀ d ∈ l, getE e2 d = getE e1 d ∨ ∃ k a b, getE e2 d = .complex k a b
  | [], _, d, h => by simp at h
  | x :: l, h, d, hd => by
    rcases List.mem_cons.1 hd with rfl | hd
    · exact h.1
    · exact weakAt_mem h.2 d hd

theorem weakE_of {e1 e2 : Env} (ks : List Nat) (h1 : keysIn ks e1 = true) (h2 : keysIn ks e2 = true) (h : weakAt e1 e2 ks) : weakE e1 e2 := fun d => by
  cases hd : memN ks d with
  | false => left; rw [getE_out hd h1, getE_out hd h2]
  | true => exact weakAt_mem h d ((memN_iff _ _).1 hd)

section
variable {P : Program} {T : Tab} {Φ : Fns} {pc : Bool} {Λ : Loops} {tn : Nat}

theorem loopSem_inv (S : Setting P T Φ pc) {c : Code} (hl : LoopsOK P tn Λ (loopsOf c)) {X : Type} (I : X → Prop) (E : X → Env) (H : X → Hp) (x : X → Nat) (E' : X → Env) (H' : X → Hp) (μ : X → Nat)
    (round : ∀ s, I s → (∃ n s' e1, ev T M0 Φ Λ pc tn n c (E s) (H s) (fun o e h => some (o, e, h)) = some (.norm, e1, H s') ∧ weakE e1 (E s') ∧ I s' ∧ μ s' < μ s ∧ x s' = x s ∧ E' s' = E' s ∧ H' s' = H' s) ∨
      (∃ n e1, ev T M0 Φ Λ pc tn n c (E s) (H s) (fun o e h => some (o, e, h)) = some (.exit (x s), e1, H' s) ∧ weakE e1 (E' s))) :
    ∀ (m : Nat) (s : X), μ s ≤ m → I s → LoopSem P tn c (E s) (H s) (x s) (E' s) (H' s) := by
  have key : ∀ (m : Nat) (s : X), μ s < m → I s → LoopSem P tn c (E s) (H s) (x s) (E' s) (H' s) := by
    intro m
    induction m with
    | zero => intro s h; omega
    | succ m ih =>
      intro s hm hI w0 β0 β a w Q hf hr hk
      refine loopWp_round ?_
      rcases round s hI with ⟨n, s', e1, hev, hw, hI', hlt, q1, q2, q3⟩ | ⟨n, e1, hev, hw⟩
      · refine (ev_sound S (w0 := w0) (β0 := β0) (tn := tn) (Λ := Λ) n).1 c _ _ _ _ β a w hev hl hf hr fun γ o e' h' a' w' hk' hf' hr' => ?_
        cases hk'
        refine ih s' (by omega) hI' w0 β0 _ a' w' Q (hf'.weak hw) hr' fun γ' a'' w'' hf'' hr'' => ?_
        rw [q1]
        rw [q2, List.append_assoc] at hf''
        rw [q3, List.append_assoc] at hr''
        exact hk _ a'' w'' hf'' hr''
      · refine (ev_sound S (w0 := w0) (β0 := β0) (tn := tn) (Λ := Λ) n).1 c _ _ _ _ β a w hev hl hf hr fun γ o e' h' a' w' hk' hf' hr' => ?_
        cases hk'
        exact hk γ a' w' (hf'.weak hw) hr'
  exact fun m s hm => key (m + 1) s (by omega)

/-- A library function without a body: the model's own entry. -/
theorem pureOK_extern {f : FuncId} {args : List Value} {v : Value} (ha : args.all exV = true) (hv : npR v = true) (h : ∀ w, (callFunc f ⟨args⟩).run P w = .ok (.value v) w) : PureOK P f args v := by
  refine ⟨fun w args' hdr o a K Q hk => ?_⟩
  have hn : args.all npV = true := exs_np ha
  rw [exs_eq ha (DRL.of_np hn hdr), h w]
  exact hk v w ⟨npR_rel v hv, Below.refl _ _⟩

end
end Go.Lan

/-! ### A function's ways, and what they come to -/
namespace Go.Lan
theorem pC {α β : Type} {k : α → β} {c : Bool} {A B : β} {x y : α} (h : A = k x) (h' : B = k y) : cond c A B = k (cond c x y) := by cases c <;> assumption
theorem kC {α β : Type} {k : α → β} {c p q : Bool} {A B : β} {x y : α} (h : p = true → A = k x) (h' : q = true → B = k y) : cond c p q = true → cond c A B = k (cond c x y) := by cases c <;> assumption
theorem kL {α β : Type} {k : α → β} {c p : Bool} {A N : β} {x : α} (h : p = true → A = k x) : cond c p false = true → cond c A N = k x := by
  cases c
  · intro e; cases e
  · exact h
theorem kR {α β : Type} {k : α → β} {c q : Bool} {B N : β} {y : α} (h : q = true → B = k y) : cond c false q = true → cond c N B = k y := by
  cases c
  · exact h
  · intro e; cases e
theorem kN {α β : Type} {k : α → β} {N : β} {y : α} : false = true → N = k y := fun e => by cases e
end Go.Lan
namespace Go.Lan
theorem three3 (n : String) (x y c : Int) (h : c ≤ 1) {P : Program} {w : World} : (Extern.MathBitsCarry.three n #[.int .u64 x, .int .u64 y, .int .u64 c]).run P w = .ok (x.toNat, y.toNat, c.toNat) w := by
  have h2 : ¬ c.toNat > 1 := by omega
  show ((do
    let c ← (fun (c : Int) => c.toNat) <$> asInt (.int .u64 c)
    if c > 1 then unsupported (.noEntry ("extern/math/bits." ++ n ++ ": a carry that is neither 0 nor 1"))
    pure ((← asInt (.int .u64 x)).toNat, (← asInt (.int .u64 y)).toNat, c)) : Sem (Nat × Nat × Nat)).run P w = _
  simp [asInt, asIntOf, h2]
end Go.Lan

/- Loops by their rounds. -/
namespace Go.Lan
open Go.RowKit

theorem memN_app {d : Nat} : ∀ {l m : List Nat}, memN (appL l m) d = false → memN l d = false ∧ memN m d = false
  | [], m, h => ⟨rfl, h⟩
  | a :: l, m, h => by
    simp only [appL, memN, Bool.or_eq_false_iff] at h ⊢
    exact ⟨⟨h.1, (memN_app h.2).1⟩, (memN_app h.2).2⟩

section
variable {P : Program} {T : Tab} {M : Prims} {Φ : Fns} {pc : Bool} {Λ : Loops} {tn : Nat}

theorem getE_put_ne {o : Oper} {l : List Oper} {v : Value} {e : Env} {d : Nat} (h : memN (asgOps (o :: l)) d = false) : getE (putE o.dst v e) d = getE e d ∧ memN (asgOps l) d = false := by
  unfold asgOps at h
  split at h
  · rename_i d' hd
    simp only [memN, Bool.or_eq_false_iff] at h
    refine ⟨?_, h.2⟩
    rw [hd, putE, getE_cons, if_neg]
    intro e'
    rw [e'] at h
    simp at h
  · rename_i hd
    rw [hd]
    exact ⟨rfl, h⟩

/-- One end, whatever follows. -/
def One {res : Type} (F : (ρ : Type) → (Env → Hp → Option ρ) → Option ρ) (asg : List Nat) (e : Env) (k : Env → Hp → Option res) (r : res) : Prop :=
  ∃ e1 h1, (∀ (ρ : Type) (k' : Env → Hp → Option ρ), F ρ k' = k' e1 h1) ∧ k e1 h1 = some r ∧ ∀ d, memN asg d = false → getE e1 d = getE e d

theorem evOne_one {o : Oper} {e : Env} {h : Hp} {res : Type} {k : Env → Hp → Option res} {r : res} (hev : evOne T M Φ o e h k = some r) :
    One (fun _ k' => evOne T M Φ o e h k') (asgOps [o]) e k r := by
  unfold evOne at hev
  split at hev
  · rename_i c a b hp
    split at hev
    · rename_i x hx
      cases x
      · exact ⟨_, _, fun ρ k' => by unfold evOne; rw [hp]; dsimp only; rw [hx]; rfl, hev, fun d hd => by rw [(getE_put_ne (l := []) hd).1, getE_refine hx]⟩
      · exact ⟨_, _, fun ρ k' => by unfold evOne; rw [hp]; dsimp only; rw [hx]; rfl, hev, fun d hd => by rw [(getE_put_ne (l := []) hd).1, getE_refine hx]⟩
    · cases hev
  · rename_i hp
    split at hev
    · rename_i g v h' hop
      obtain ⟨rfl, hk⟩ := cond_some hev
      exact ⟨_, _, fun ρ k' => by unfold evOne; rw [hp]; dsimp only; rw [hop]; rfl, hk, fun d hd => (getE_put_ne (l := []) hd).1⟩
    · cases hev

theorem evOps_one {res : Type} (all : List Oper) : ∀ (l : List Oper) (e : Env) (h : Hp) (k : Env → Hp → Option res) (r : res), evOps T M Φ all l e h k = some r →
    One (fun _ k' => evOps T M Φ all l e h k') (asgOps l) e k r
  | [], e, h, k, r, hev => ⟨e, h, fun _ _ => rfl, hev, fun _ _ => rfl⟩
  | o :: l, e, h, k, r, hev => by
    have split1 : ∀ d, memN (asgOps (o :: l)) d = false → memN (asgOps [o]) d = false ∧ memN (asgOps l) d = false := by
      intro d hd
      refine ⟨?_, (getE_put_ne (v := .tuple #[]) (e := []) hd).2⟩
      unfold asgOps at hd ⊢
      split at hd
      · simp only [memN, Bool.or_eq_false_iff] at hd
        simp [hd.1, asgOps, memN]
      · simp [asgOps, memN]
    have one : ∀ e2, getE e2 = getE e → (evOne T M Φ o e2 h fun e h => evOps T M Φ all l e h k) = some r →
        One (fun _ k' => evOne T M Φ o e2 h fun e h => evOps T M Φ all l e h k') (asgOps (o :: l)) e k r := by
      intro e2 he hh
      obtain ⟨e1, h1, q1, q2, q3⟩ := evOne_one hh
      obtain ⟨e3, h3, q4, q5, q6⟩ := evOps_one all l e1 h1 k r q2
      exact ⟨e3, h3, fun ρ k' => (q1 ρ _).trans (q4 ρ k'), q5, fun d hd => by rw [q6 d (split1 d hd).2, q3 d (split1 d hd).1, he]⟩
    have skip : ∀ e2, getE e2 = getE e → evOps T M Φ all l (putE o.dst (.tuple #[]) e2) h k = some r →
        One (fun _ k' => evOps T M Φ all l (putE o.dst (.tuple #[]) e2) h k') (asgOps (o :: l)) e k r := by
      intro e2 he hh
      obtain ⟨e3, h3, q4, q5, q6⟩ := evOps_one all l _ h k r hh
      exact ⟨e3, h3, q4, q5, fun d hd => by rw [q6 d (split1 d hd).2, (getE_put_ne hd).1, he]⟩
    have conv : ∀ {F G : (ρ : Type) → (Env → Hp → Option ρ) → Option ρ}, (∀ ρ k', F ρ k' = G ρ k') → One G (asgOps (o :: l)) e k r → One F (asgOps (o :: l)) e k r := by
      intro F G hFG ⟨e3, h3, q4, q5, q6⟩
      exact ⟨e3, h3, fun ρ k' => (hFG ρ k').trans (q4 ρ k'), q5, q6⟩
    simp only [evOps] at hev
    split at hev
    · rename_i hg
      exact conv (fun ρ k' => by simp only [evOps, hg]) (one e rfl hev)
    · rename_i j' want hg
      split at hev
      · cases hev
      · rename_i s hs
        split at hev
        · rename_i b hb
          have hself : ∀ c, c = b → getE ((s, .bool c) :: e) = getE e := by
            intro c hc
            funext n
            rw [getE_cons]
            split
            · rename_i h1; rw [← h1, hb, hc]
            · rfl
          cases b <;> cases want <;> simp only [cond_true, cond_false] at hev
          · exact conv (fun ρ k' => by simp only [evOps, hg, hs, hb, cond_false]) (one _ (hself _ rfl) hev)
          · exact conv (fun ρ k' => by simp only [evOps, hg, hs, hb, cond_false]) (skip _ (hself _ rfl) hev)
          · exact conv (fun ρ k' => by simp only [evOps, hg, hs, hb, cond_true]) (skip _ (hself _ rfl) hev)
          · exact conv (fun ρ k' => by simp only [evOps, hg, hs, hb, cond_true]) (one _ (hself _ rfl) hev)
        · rename_i l' hb
          exact conv (fun ρ k' => by simp only [evOps, hg, hs, hb]) (skip e rfl hev)
        · cases hev

/-- A summary leaves alone what its loop leaves alone. -/
def LoopsFrame (Λ : Loops) : List Code → Prop
  | [] => True
  | c :: l => (∀ e h g x e' h', Λ (keyOf c) e h = some (g, x, e', h') → ∀ d, memN (asgs c) d = false → getE e' d = getE e d) ∧ LoopsFrame Λ l

theorem loopsFrame_app {Λ : Loops} : ∀ {l m : List Code}, LoopsFrame Λ (appL l m) → LoopsFrame Λ l ∧ LoopsFrame Λ m
  | [], _, h => ⟨trivial, h⟩
  | _ :: _, _, h => ⟨⟨h.1, (loopsFrame_app h.2).1⟩, (loopsFrame_app h.2).2⟩

theorem noLoopsFrame : ∀ l : List Code, LoopsFrame noLoops l
  | [] => trivial
  | _ :: l => ⟨fun _ _ _ _ _ _ h => (by cases h), noLoopsFrame l⟩

theorem ev_one {res : Type} {r : res} : ∀ (n : Nat) (c : Code) (e : Env) (h : Hp) (k : Out → Env → Hp → Option res), LoopsFrame Λ (loopsOf c) → ev T M Φ Λ pc tn n c e h k = some r →
    ∃ o e1 h1, (∀ (ρ : Type) (k' : Out → Env → Hp → Option ρ), ev T M Φ Λ pc tn n c e h k' = k' o e1 h1) ∧ k o e1 h1 = some r ∧ ∀ d, memN (asgs c) d = false → getE e1 d = getE e d
  | 0, c, e, h, k, _, hev => by simp [ev] at hev
  | n + 1, c, e, h, k, hl, hev => by
    cases c with
    | skip => exact ⟨.norm, e, h, fun _ _ => rfl, hev, fun _ _ => rfl⟩
    | region id ops d =>
      simp only [ev] at hev
      split at hev
      · rename_i hok
        obtain ⟨e1, h1, q1, q2, q3⟩ := evOps_one ops.toList ops.toList e h (k .norm) r hev
        refine ⟨.norm, e1, h1, fun ρ k' => ?_, q2, q3⟩
        simp only [ev, hok]
        exact q1 ρ (k' .norm)
      · cases hev
    | seq x y =>
      simp only [ev] at hev
      obtain ⟨hl1, hl2⟩ := loopsFrame_app hl
      obtain ⟨o, e1, h1, q1, q2, q3⟩ := ev_one n x e h _ hl1 hev
      cases o with
      | norm =>
        obtain ⟨o2, e2, h2, q4, q5, q6⟩ := ev_one n y e1 h1 k hl2 q2
        exact ⟨o2, e2, h2, fun ρ k' => by simp only [ev]; rw [q1]; exact q4 ρ k', q5, fun d hd => by rw [q6 d (memN_app hd).2, q3 d (memN_app hd).1]⟩
      | exit id => exact ⟨.exit id, e1, h1, fun ρ k' => by simp only [ev]; rw [q1], q2, fun d hd => q3 d (memN_app hd).1⟩
      | ret => exact ⟨.ret, e1, h1, fun ρ k' => by simp only [ev]; rw [q1], q2, fun d hd => q3 d (memN_app hd).1⟩
    | cond x y z =>
      simp only [ev] at hev
      split at hev
      · rename_i t ht
        obtain ⟨hl1, hl2⟩ := loopsFrame_app hl
        split at hev
        rotate_left
        · rename_i hj
          split at hev
          · rename_i e1 e2 m1 m2
            refine ⟨.norm, _, h, fun ρ k' => by simp only [ev, ht, hj, m1, m2], hev, fun d hd => ?_⟩
            rcases getE_mrgE (t := t) (e1 := e1) (e2 := e2) (e := e) (d := d) (appL (asgs y) (asgs z)) with ⟨_, he⟩ | ⟨hm, _⟩
            · exact he
            · exact absurd (hm.symm.trans hd) (by simp)
          · cases hev
        rename_i hj
        cases t
        · obtain ⟨o, e1, h1, q1, q2, q3⟩ := ev_one n z _ h k hl2 hev
          exact ⟨o, e1, h1, fun ρ k' => by simp only [ev, ht, hj, cond_false]; exact q1 ρ k', q2, fun d hd => by rw [q3 d (memN_app hd).2, getE_refine ht]⟩
        · obtain ⟨o, e1, h1, q1, q2, q3⟩ := ev_one n y _ h k hl1 hev
          exact ⟨o, e1, h1, fun ρ k' => by simp only [ev, ht, hj, cond_true]; exact q1 ρ k', q2, fun d hd => by rw [q3 d (memN_app hd).1, getE_refine ht]⟩
      · cases hev
    | block id x =>
      simp only [ev] at hev
      obtain ⟨o, e1, h1, q1, q2, q3⟩ := ev_one n x e h _ hl hev
      cases o with
      | norm => exact ⟨.norm, e1, h1, fun ρ k' => by simp only [ev]; rw [q1], q2, q3⟩
      | exit j =>
        dsimp only at q2
        split at q2
        · rename_i hj
          exact ⟨.norm, e1, h1, fun ρ k' => by simp only [ev]; rw [q1]; simp only [hj], q2, q3⟩
        · rename_i hj
          exact ⟨.exit j, e1, h1, fun ρ k' => by simp only [ev]; rw [q1]; simp only [hj], q2, q3⟩
      | ret => exact ⟨.ret, e1, h1, fun ρ k' => by simp only [ev]; rw [q1], q2, q3⟩
    | loop x =>
      have hl0 := hl
      simp only [ev] at hev
      split at hev
      · rename_i g j e' h' hΛ
        obtain ⟨rfl, hk⟩ := cond_some hev
        exact ⟨.exit j, e', h', fun ρ k' => by simp only [ev, hΛ, cond_true], hk, fun d hd => hl.1 e h true j e' h' hΛ d hd⟩
      · rename_i hΛ
        obtain ⟨o, e1, h1, q1, q2, q3⟩ := ev_one n x e h _ hl.2 hev
        cases o with
        | norm =>
          obtain ⟨o2, e2, h2, q4, q5, q6⟩ := ev_one n (.loop x) e1 h1 k hl0 q2
          exact ⟨o2, e2, h2, fun ρ k' => by simp only [ev, hΛ]; rw [q1]; exact q4 ρ k', q5, fun d hd => by rw [q6 d hd, q3 d hd]⟩
        | exit id => exact ⟨.exit id, e1, h1, fun ρ k' => by simp only [ev, hΛ]; rw [q1], q2, q3⟩
        | ret => exact ⟨.ret, e1, h1, fun ρ k' => by simp only [ev, hΛ]; rw [q1], q2, q3⟩
    | exit id => exact ⟨.exit id, e, h, fun _ _ => rfl, hev, fun _ _ => rfl⟩
    | ret => exact ⟨.ret, e, h, fun _ _ => rfl, hev, fun _ _ => rfl⟩
    | _ => simp [ev] at hev

/-! ### Rounds -/
def runL {σ : Type} (step : σ → Option (Bool × σ)) : Nat → σ → Option σ
  | 0, _ => none
  | n + 1, s => match step s with
    | none => none
    | some (true, s') => runL step n s'
    | some (false, s') => some s'

def unkV : Value := .complex .f32 0 0

/-- The slots of a state, what the loop fills besides, and what it leaves alone. -/
def mkE (vals : List (Nat × Value)) (asg : List Nat) (b : Nat → Value) : List Nat → Env
  | [] => []
  | d :: l => (d, match lk vals d with
    | some v => v
    | none => match memN asg d with
      | true => unkV
      | false => b d) :: mkE vals asg b l
where lk : List (Nat × Value) → Nat → Option Value
  | [], _ => none
  | (k, v) :: l, d => match Nat.beq k d with
    | true => some v
    | false => lk l d

def keysLt (n : Nat) : Env → Bool
  | [] => true
  | (k, _) :: e => Nat.blt k n && keysLt n e

def upTo : Nat → Nat → List Nat
  | 0, _ => []
  | n + 1, i => i :: upTo n (i + 1)

theorem getE_ge {n : Nat} {d : Nat} (hd : n ≤ d) : ∀ {e : Env}, keysLt n e = true → getE e d = .tuple #[]
  | [], _ => rfl
  | (k, v) :: e, h => by
    simp only [keysLt, Bool.and_eq_true, Nat.blt_eq] at h
    rw [getE_cons, if_neg (by omega), getE_ge hd h.2]

theorem getE_mkE {vals : List (Nat × Value)} {asg : List Nat} {b : Nat → Value} {d : Nat} : ∀ (n i : Nat), getE (mkE vals asg b (upTo n i)) d = if i ≤ d ∧ d < i + n then (match mkE.lk vals d with | some v => v | none => match memN asg d with | true => unkV | false => b d) else .tuple #[]
  | 0, i => by
    rw [if_neg (by omega)]
    rfl
  | n + 1, i => by
    simp only [upTo, mkE]
    rw [getE_cons, getE_mkE n (i + 1)]
    by_cases h : i = d
    · subst h
      rw [if_pos rfl, if_pos (by omega)]
    · rw [if_neg h]
      by_cases h2 : i + 1 ≤ d ∧ d < i + 1 + n
      · rw [if_pos h2, if_pos (by omega)]
      · rw [if_neg h2, if_neg (by omega)]

theorem lk_get {e : Env} {d : Nat} {v : Value} : ∀ {vals : List (Nat × Value)}, (∀ p ∈ vals, getE e p.1 = p.2) → mkE.lk vals d = some v → getE e d = v
  | [], _, h => by simp [mkE.lk] at h
  | (k, u) :: l, hv, h => by
    simp only [mkE.lk] at h
    split at h
    · rename_i hk
      cases h
      rw [← Nat.eq_of_beq_eq_true hk]
      exact hv (k, v) (by simp)
    · exact lk_get (fun p hp => hv p (by simp [hp])) h

theorem lk_slots {d : Nat} : ∀ {vals vals' : List (Nat × Value)}, vals.map (·.1) = vals'.map (·.1) → mkE.lk vals d = none → mkE.lk vals' d = none
  | [], [], _, _ => rfl
  | [], _ :: _, h, _ => by simp at h
  | _ :: _, [], h, _ => by simp at h
  | (k, u) :: l, (k', u') :: l', hs, h => by
    simp only [List.map_cons, List.cons.injEq] at hs
    obtain ⟨rfl, hs⟩ := hs
    simp only [mkE.lk] at h ⊢
    split at h
    · cases h
    · rename_i hk
      exact lk_slots hs h

/-- What stands in the slots is so, and elsewhere as before or unknown. -/
theorem weak_mkE {vals : List (Nat × Value)} {asg : List Nat} {b : Nat → Value} {n : Nat} {e : Env} (hv : ∀ p ∈ vals, getE e p.1 = p.2) (hb : ∀ d, memN asg d = false → d < n → mkE.lk vals d = none → getE e d = b d) (hn : ∀ d, n ≤ d → getE e d = .tuple #[]) :
    weakE e (mkE vals asg b (upTo n 0)) := by
  intro d
  rw [getE_mkE]
  by_cases h : d < n
  · rw [if_pos ⟨Nat.zero_le _, by omega⟩]
    cases hl : mkE.lk vals d with
    | some v => exact .inl (lk_get hv hl).symm
    | none =>
      dsimp only
      cases ha : memN asg d with
      | true => exact .inr ⟨_, _, _, rfl⟩
      | false => exact .inl (hb d ha h hl).symm
  · rw [if_neg (by omega), hn d (by omega)]
    exact .inl rfl

def sndL : List (Nat × Value) → List Value
  | [] => []
  | p :: l => p.2 :: sndL l

def getEs (e : Env) : List Nat → List Value
  | [] => []
  | d :: l => getE e d :: getEs e l

theorem getEs_eq {e : Env} : ∀ {sl : List Nat} {vals : List (Nat × Value)}, vals.map (·.1) = sl → getEs e sl = sndL vals → ∀ p ∈ vals, getE e p.1 = p.2
  | _, [], _, _, p, hp => by simp at hp
  | _, (k, v) :: vals, h1, h2, p, hp => by
    simp only [List.map_cons] at h1
    subst h1
    simp only [getEs, sndL, List.cons.injEq] at h2
    rcases List.mem_cons.1 hp with rfl | hp
    · exact h2.1
    · exact getEs_eq rfl h2.2 p hp

/-- A loop of rounds over numbers: it leaves memory alone. -/
theorem loop_rounds (S : Setting P T Φ pc) {c : Code} (hl : LoopsOK P tn Λ (loopsOf c)) (hfr : LoopsFrame Λ (loopsOf c)) {σ : Type} (step : σ → Option (Bool × σ)) (vals : σ → List (Nat × Value)) (sl : List Nat) (hsl : ∀ s, (vals s).map (·.1) = sl) (x : Nat) (N : Nat) {asg : List Nat} (hasg : asgs c = asg)
    (hev : ∀ (b : Nat → Value) (h : Hp) (s s' : σ) (g : Bool), step s = some (g, s') → ev T M0 Φ Λ pc tn N c (mkE (vals s) asg b (upTo tn 0)) h (fun o e h => some (o, getEs e sl, h)) = some (cond g .norm (.exit x), sndL (vals s'), h))
    (hin0 : allBelow tn asg = true) :
    ∀ (n : Nat) (s s' : σ) (e : Env) (h : Hp), runL step n s = some s' → keysLt tn e = true → (∀ p ∈ vals s, getE e p.1 = p.2) → LoopSem P tn c e h x (mkE (vals s') asg (getE e) (upTo tn 0)) h := by
  intro n s s' e h hrun hk hs
  subst hasg
  have hin : ∀ d, memN (asgs c) d = true → d < tn := fun d hd => allBelow_mem hin0 d ((memN_iff _ _).1 hd)
  have hinv := loopSem_inv S hl (X := Nat × σ × σ) (I := fun y => runL step y.1 y.2.1 = some y.2.2) (E := fun y => mkE (vals y.2.1) (asgs c) (getE e) (upTo tn 0)) (H := fun _ => h) (x := fun _ => x) (E' := fun y => mkE (vals y.2.2) (asgs c) (getE e) (upTo tn 0)) (H' := fun _ => h) (μ := fun y => y.1) ?_ n (n, s, s') (Nat.le_refl _) hrun
  · intro w0 β0 β a w Q hf hr hq
    refine hinv w0 β0 β a w Q (hf.weak (weak_mkE hs (fun _ _ _ _ => rfl) fun d hd => getE_ge hd hk)) hr hq
  · intro ⟨m, u, u'⟩ hI
    dsimp only at hI ⊢
    cases m with
    | zero => simp [runL] at hI
    | succ m =>
      simp only [runL] at hI
      have fin : ∀ g s1, step u = some (g, s1) → ∃ o e1 h1, ev T M0 Φ Λ pc tn N c (mkE (vals u) (asgs c) (getE e) (upTo tn 0)) h (fun o e h => some (o, e, h)) = some (o, e1, h1) ∧ o = cond g .norm (.exit x) ∧ h1 = h ∧ weakE e1 (mkE (vals s1) (asgs c) (getE e) (upTo tn 0)) := by
        intro g s1 hst
        obtain ⟨o, e1, h1, q1, q2, q3⟩ := ev_one N c _ h _ hfr (hev (getE e) h u s1 g hst)
        simp only [Option.some.injEq, Prod.mk.injEq] at q2
        refine ⟨o, e1, h1, q1 _ _, q2.1, q2.2.2, weak_mkE (getEs_eq (hsl s1) q2.2.1) (fun d hd hlt hn => ?_) fun d hd => ?_⟩
        · rw [q3 d hd, getE_mkE, if_pos ⟨Nat.zero_le _, by omega⟩, lk_slots ((hsl s1).trans (hsl u).symm) hn, hd]
        · have : memN (asgs c) d = false := by
            cases hm : memN (asgs c) d with
            | false => rfl
            | true => have := hin d hm; omega
          rw [q3 d this, getE_mkE, if_neg (by omega)]
      split at hI
      · cases hI
      · rename_i s1 hst
        obtain ⟨o, e1, h1, q1, rfl, rfl, q4⟩ := fin true s1 hst
        exact .inl ⟨N, (m, s1, u'), e1, q1, q4, hI, Nat.lt_succ_self _, rfl, rfl, rfl⟩
      · rename_i s1 hst
        cases hI
        obtain ⟨o, e1, h1, q1, rfl, rfl, q4⟩ := fin false _ hst
        exact .inr ⟨N, e1, q1, q4⟩

/-- A loop of rounds over numbers and memory: all of memory that is known belongs to the state. -/
theorem loop_rounds_mem (S : Setting P T Φ pc) {c : Code} (hl : LoopsOK P tn Λ (loopsOf c)) (hfr : LoopsFrame Λ (loopsOf c)) {σ : Type} (step : σ → Option (Bool × σ)) (vals : σ → List (Nat × Value)) (H : σ → Hp) (sl : List Nat) (hsl : ∀ s, (vals s).map (·.1) = sl) (x : Nat) (N : Nat) {asg : List Nat} (hasg : asgs c = asg)
    (hev : ∀ (b : Nat → Value) (s s' : σ) (g : Bool), step s = some (g, s') → ev T M0 Φ Λ pc tn N c (mkE (vals s) asg b (upTo tn 0)) (H s) (fun o e h => some (o, getEs e sl, h)) = some (cond g .norm (.exit x), sndL (vals s'), H s'))
    (hin0 : allBelow tn asg = true) :
    ∀ (n : Nat) (s s' : σ) (e : Env), runL step n s = some s' → keysLt tn e = true → (∀ p ∈ vals s, getE e p.1 = p.2) → LoopSem P tn c e (H s) x (mkE (vals s') asg (getE e) (upTo tn 0)) (H s') := by
  intro n s s' e hrun hk hs
  subst hasg
  have hin : ∀ d, memN (asgs c) d = true → d < tn := fun d hd => allBelow_mem hin0 d ((memN_iff _ _).1 hd)
  have hinv := loopSem_inv S hl (X := Nat × σ × σ) (I := fun y => runL step y.1 y.2.1 = some y.2.2) (E := fun y => mkE (vals y.2.1) (asgs c) (getE e) (upTo tn 0)) (H := fun y => H y.2.1) (x := fun _ => x) (E' := fun y => mkE (vals y.2.2) (asgs c) (getE e) (upTo tn 0)) (H' := fun y => H y.2.2) (μ := fun y => y.1) ?_ n (n, s, s') (Nat.le_refl _) hrun
  · intro w0 β0 β a w Q hf hr hq
    refine hinv w0 β0 β a w Q (hf.weak (weak_mkE hs (fun _ _ _ _ => rfl) fun d hd => getE_ge hd hk)) hr hq
  · intro ⟨m, u, u'⟩ hI
    dsimp only at hI ⊢
    cases m with
    | zero => simp [runL] at hI
    | succ m =>
      simp only [runL] at hI
      have fin : ∀ g s1, step u = some (g, s1) → ∃ o e1 h1, ev T M0 Φ Λ pc tn N c (mkE (vals u) (asgs c) (getE e) (upTo tn 0)) (H u) (fun o e h => some (o, e, h)) = some (o, e1, h1) ∧ o = cond g .norm (.exit x) ∧ h1 = H s1 ∧ weakE e1 (mkE (vals s1) (asgs c) (getE e) (upTo tn 0)) := by
        intro g s1 hst
        obtain ⟨o, e1, h1, q1, q2, q3⟩ := ev_one N c _ (H u) _ hfr (hev (getE e) u s1 g hst)
        simp only [Option.some.injEq, Prod.mk.injEq] at q2
        refine ⟨o, e1, h1, q1 _ _, q2.1, q2.2.2, weak_mkE (getEs_eq (hsl s1) q2.2.1) (fun d hd hlt hn => ?_) fun d hd => ?_⟩
        · rw [q3 d hd, getE_mkE, if_pos ⟨Nat.zero_le _, by omega⟩, lk_slots ((hsl s1).trans (hsl u).symm) hn, hd]
        · have : memN (asgs c) d = false := by
            cases hm : memN (asgs c) d with
            | false => rfl
            | true => have := hin d hm; omega
          rw [q3 d this, getE_mkE, if_neg (by omega)]
      split at hI
      · cases hI
      · rename_i s1 hst
        obtain ⟨o, e1, h1, q1, rfl, rfl, q4⟩ := fin true s1 hst
        exact .inl ⟨N, (m, s1, u'), e1, q1, q4, hI, Nat.lt_succ_self _, rfl, rfl, rfl⟩
      · rename_i s1 hst
        cases hI
        obtain ⟨o, e1, h1, q1, rfl, rfl, q4⟩ := fin false _ hst
        exact .inr ⟨N, e1, q1, q4⟩

end

/-! ### What is called, function by function -/
abbrev Ph := List Value → Option (Bool × Value)
structure PhOK (P : Program) (i : FuncId) (F : Ph) : Prop where
  ok : ∀ args v, F args = some (true, v) → args.all dpV = true ∧ npR v = true ∧ PureOK P i args v

def noFns : FuncId → List Value → Option (Bool × Value) := fun _ _ => none
def ifId (i : Nat) (F : Ph) (G : FuncId → List Value → Option (Bool × Value)) : FuncId → List Value → Option (Bool × Value) := fun id args => cond (Nat.beq id i) (F args) (G id args)

theorem noFnsOK {P : Program} : PureFns P noFns := fun _ _ _ h => by cases h
theorem ifIdOK {P : Program} {i : Nat} {F : Ph} {G : FuncId → List Value → Option (Bool × Value)} (hF : PhOK P i F) (hG : PureFns P G) : PureFns P (ifId i F G) := by
  intro id args v h
  unfold ifId at h
  cases hb : Nat.beq id i with
  | true =>
    rw [hb] at h
    have := Nat.eq_of_beq_eq_true hb
    subst this
    exact hF.ok args v h
  | false =>
    rw [hb] at h
    exact hG id args v h

theorem setting_pure {P : Program} {T : Tab} {Φp : FuncId → List Value → Option (Bool × Value)} (hm : P.follows .mixedOrders = true) (hT : TabOK P T) (hΦ : PureFns P Φp) : Setting P T (pureFns Φp) true :=
  ⟨hm, fun _ => pureF_pure Φp, hT, fnsOK_pure hΦ⟩

/-! ### Steps as trees -/
theorem nC {σ ρ : Type} {c g : Bool} {s : σ} {A B : Option (Bool × σ)} {A' B' : Option ρ} {X : Option ρ} (h : A = some (g, s) → A' = X) (h' : B = some (g, s) → B' = X) : cond c A B = some (g, s) → cond c A' B' = X := by cases c <;> assumption
theorem nN {σ ρ : Type} {g : Bool} {s t : σ} {kn kx : σ → Option ρ} : some (true, t) = some (g, s) → kn t = cond g (kn s) (kx s) := by intro h; cases h; rfl
theorem nX {σ ρ : Type} {g : Bool} {s t : σ} {kn kx : σ → Option ρ} : some (false, t) = some (g, s) → kx t = cond g (kn s) (kx s) := by intro h; cases h; rfl
theorem nD {σ ρ : Type} {g : Bool} {s : σ} {A X : Option ρ} : (none : Option (Bool × σ)) = some (g, s) → A = X := by intro h; cases h
end Go.Lan

/- From what a call computes to a law's row: arguments of numbers and bools, and structs and arrays of them. -/
namespace Go.Lan
open Go.ChangeShapes Go.WideShapes Go.ChangeAt Go.RowKit

/-- A leaf: a number or a bool. -/
inductive LK where
  | i (k : IntKind)
  | f
  | b

def LeafOK : LK → Value → Prop
  | .i k, v => ∃ n, v = .int k n ∧ k.min ≤ n ∧ n ≤ k.max
  | .f, v => ∃ x, v = .float .f64 x ∧ x < 18446744073709551616
  | .b, v => ∃ x, v = .bool x

def lkOf (P : Program) (t : TypeId) : Option LK :=
  match P.underlying t with
  | some (.int k) => some (.i k)
  | some (.float .f64) => some .f
  | some .bool => some .b
  | _ => none
def lksOf (P : Program) : List TypeId → Option (List LK)
  | [] => some []
  | t :: l => match lkOf P t, lksOf P l with
    | some k, some ks => some (k :: ks)
    | _, _ => none

inductive Leafs : List LK → List Value → Prop
  | nil : Leafs [] []
  | cons {k : LK} {v : Value} {ks : List LK} {l : List Value} (h : LeafOK k v) (t : Leafs ks l) : Leafs (k :: ks) (v :: l)

section
variable {P : Program} {W : World} {base : Nat}

theorem leaf_cell {u : TypeId} {v : Value} {k : LK} (hk : lkOf P u = some k) (h : Cell.okWide P W .any base u v) : LeafOK k v := by
  unfold lkOf at hk
  split at hk
  · rename_i k' hu
    cases hk
    cases v <;> simp only [Cell.okWide, hu, Cell.ok] at h
    obtain ⟨rfl, h⟩ := h
    exact ⟨_, rfl, h.1, h.2⟩
  · rename_i hu
    cases hk
    cases v <;> simp only [Cell.okWide, hu, Cell.ok] at h
    obtain ⟨rfl, h⟩ := h
    exact ⟨_, rfl, h⟩
  · rename_i hu
    cases hk
    cases v <;> simp only [Cell.okWide, hu, Cell.ok] at h
    exact ⟨_, rfl⟩
  · cases hk

theorem leafs_of : ∀ (ts : List TypeId) (ks : List LK) (l : List Value), lksOf P ts = some ks → l.length = ts.length → (∀ (i : Nat) v, l[i]? = some v → ∃ u, ts[i]? = some u ∧ Cell.okWide P W .any base u v) → Leafs ks l
  | [], ks, [], hk, _, _ => by cases hk; exact .nil
  | [], ks, _ :: _, _, hl, _ => by simp at hl
  | _ :: _, ks, [], _, hl, _ => by simp at hl
  | t :: ts, ks, v :: l, hk, hl, h => by
    simp only [lksOf] at hk
    split at hk
    · rename_i k ks' h1 h2
      cases hk
      obtain ⟨u, hu, hc⟩ := h 0 v rfl
      simp at hu
      subst hu
      exact .cons (leaf_cell h1 hc) (leafs_of ts ks' l h2 (by simpa using hl) fun i v hv => h (i + 1) v (by simpa using hv))
    · cases hk

/-- What is asked of a type, closed facts all: its leaves, and whether it is a struct or an array. -/
def aggB (P : Program) (t : TypeId) : Bool :=
  match P.underlying t with
  | some (.struct _) => true
  | some (.array _ _) => true
  | _ => false

theorem open_flat {t : TypeId} {v : Value} {ts : List TypeId} {ks : List LK} (ha : aggB P t = true) (ht : P.cellTypes P.depth t = some ts) (hk : lksOf P ts = some ks) (hc : P.cellsOf t = ts.length) (h : Value.okWide P W .any base t v) :
    ∃ l, v = .agg ⟨l⟩ ∧ Leafs ks l := by
  have key : ∃ cs, v = .agg cs ∧ cs.size = P.cellsOf t ∧ Row.okWide P W .any base t cs := by
    unfold aggB at ha
    unfold Value.okWide at h
    split at h
    · exact h
    · exact h
    · split at ha <;> simp_all
  obtain ⟨⟨l⟩, rfl, hsz, ts', ht', _, hcell⟩ := key
  rw [ht] at ht'
  cases ht'
  refine ⟨l, rfl, leafs_of (W := W) (base := base) ts ks l hk (by simpa [hc] using hsz) fun i v hv => ?_⟩
  obtain ⟨u, hu, ho⟩ := hcell i v (by simpa using hv)
  have hlt : i < ts.length := by
    have := (List.getElem?_eq_some_iff.1 hv).1
    have hl : l.length = ts.length := by simpa [hc] using hsz
    omega
  rw [Nat.mod_eq_of_lt hlt] at hu
  exact ⟨u, hu, ho⟩

theorem open_leaf {t : TypeId} {v : Value} {k : LK} (hk : lkOf P t = some k) (h : Value.okWide P W .any base t v) : LeafOK k v := by
  refine leaf_cell (W := W) (base := base) hk ?_
  unfold lkOf at hk
  unfold Value.okWide at h
  split at h
  · rename_i hu; rw [hu] at hk; cases hk
  · rename_i hu; rw [hu] at hk; cases hk
  · exact h

/-! ### Behind the call -/
variable {H : Type} {enc : TypeId × Value → H}

def readB (P : Program) (t : TypeId) : Bool := P.readableRec t && decide (t < P.types.size)

theorem trodAll_below (hl : laidOutB P = true) {W W' : World} (hb : Below W.heap.size W W') : ∀ {ts : List TypeId} {vs : List Value} {ds : List (DataW H)} {ps : List MemPlace}, ts.all (readB P) = true →
    DataW.TrodAll enc P W 0 (fun _ => true) true ts vs ds ps → (∀ x ∈ ps, x.block < W.heap.size) → DataW.TrodAll enc P W' 0 (fun b => decide (b < W.heap.size)) true ts vs ds ps
  | [], [], [], ps, _, h, _ => h
  | [], [], _ :: _, ps, _, h, _ => by simp [DataW.TrodAll] at h
  | [], _ :: _, _, ps, _, h, _ => by simp [DataW.TrodAll] at h
  | _ :: _, [], _, ps, _, h, _ => by simp [DataW.TrodAll] at h
  | _ :: _, _ :: _, [], ps, _, h, _ => by simp [DataW.TrodAll] at h
  | t :: ts, v :: vs, d :: ds, ps, hr, h, hlt => by
    simp only [List.all_cons, Bool.and_eq_true, readB, decide_eq_true_eq] at hr
    obtain ⟨p, q, h1, h2, rfl⟩ := h
    exact ⟨p, q, Below.trod hl hr.1.1 hr.1.2 h1 hb fun x hx => hlt x (List.mem_append_left _ hx), trodAll_below hl hb (by simpa [readB] using hr.2) h2 fun x hx => hlt x (List.mem_append_right _ hx), rfl⟩

/-- A law that answered true and left all memory as it was. -/
theorem law_post {f : Func} {s : ChangeSpec} {W W' : World} {args : Array Value} {ds : List (DataW H)} {before : List MemPlace} {tb : TypeId} (hl : laidOutB P = true) (hr : f.params.toList.all (readB P) = true)
    (hvars : s.vars = []) (hW : DataW.Whole enc P f.params.toList s.vars false W args.toList ds [] before) (hb : Below W.heap.size W W') (hres : f.resultTypes = #[tb]) (htb : P.underlying tb = some .bool)
    (hspec : s.fn H ds = { results := [.lit (.bool true)], args := ds }) : s.post enc P f false true false false W args (.bool true) W' := by
  have hlt : ∀ x ∈ before, x.block < W.heap.size := fun x hx => by simpa using hW.lt x hx
  have hW0 := hW
  obtain ⟨p, q, hA, hV, rfl, _, _⟩ := hW
  rw [hvars] at hV
  have hq : q = [] := hV
  subst hq
  refine ⟨ds, [], _, [], p, [], hW0, ?_, ?_, ?_, Below.frame hb _, fun h => by cases h⟩
  · rw [List.append_nil, hspec, hres]
    exact ⟨[], [], ⟨1, by simp [DataW.trod, Value.cells, htb]⟩, rfl, rfl⟩
  · rw [List.append_nil, hspec]
    exact trodAll_below hl hb hr hA fun x hx => hlt x (by simpa using hx)
  · rw [List.append_nil, hspec, hvars]
    rfl

end
end Go.Lan
