/- Orders, by what each operation touches; blocks that are made in any order. -/
import Derived.Test.YtpgjihkaocahbaaKm
namespace Go.Lan
section
variable {P : Program} {T : Tab} {M : Prims} {Φ : Fns} {pc : Bool}

/-- An operation without a test. -/
def bare (o : Oper) : Prop := o.guard = none ∧ asPick o.op = none

/-- An operation, where a block that it makes has its number beforehand. -/
def opN (T : Tab) (M : Prims) (Φ : Fns) (p : Option Nat) (ρ : Operand → Value) (h : Hp) (op : Op) : Option (Bool × Value × Hp) :=
  match p with
  | none => opR T M Φ ρ h op
  | some p => match opR T M Φ ρ [] op with
    | some (g, v, [x]) => some (g, nameV p v, h.set p x)
    | _ => none

def outN (T : Tab) (M : Prims) (Φ : Fns) (p : Option Nat) (o : Oper) (f : Nat → Value) (h : Hp) : Option (Value × Hp) :=
  match opN T M Φ p (opF f) h o.op with
  | some (true, v, h') => some (v, h')
  | _ => none

def stepN (T : Tab) (M : Prims) (Φ : Fns) (all : List Oper) (nm : Nat → Option Nat) (i : Nat) (s : S) : Option S :=
  match all[i]? with
  | none => none
  | some o => match outN T M Φ (nm i) o s.1 s.2 with
    | some (v, h) => some (upd o.dst v s.1, h)
    | none => none

def runN (T : Tab) (M : Prims) (Φ : Fns) (all : List Oper) (nm : Nat → Option Nat) : List Nat → S → Option S
  | [], s => some s
  | i :: l, s => (stepN T M Φ all nm i s).bind (runN T M Φ all nm l)

theorem runN_append (all : List Oper) (nm : Nat → Option Nat) : ∀ (l m : List Nat) (s : S), runN T M Φ all nm (l ++ m) s = (runN T M Φ all nm l s).bind (runN T M Φ all nm m)
  | [], m, s => rfl
  | i :: l, m, s => by
    rw [List.cons_append, runN, runN, Option.bind_assoc]
    congr 1
    funext s'
    exact runN_append all nm l m s'

theorem outN_some {p : Option Nat} {o : Oper} {f : Nat → Value} {h : Hp} {v : Value} {h' : Hp} : outN T M Φ p o f h = some (v, h') ↔ opN T M Φ p (opF f) h o.op = some (true, v, h') := by
  unfold outN
  constructor
  · intro he
    split at he
    · rename_i h1; cases he; exact h1
    · cases he
  · intro he
    rw [he]

def fpN (pc : Bool) (p : Option Nat) (o : Oper) (f : Nat → Value) : FP :=
  match p with
  | some p => .wr p
  | none => fpOp pc (opF f) o.op

theorem outN_congr {p : Option Nat} {all : List Oper} {o : Oper} {f g : Nat → Value} {h : Hp} (hh : ∀ d ∈ looks all o, f d = g d) : outN T M Φ p o f h = outN T M Φ p o g h := by
  have hops : ∀ x ∈ o.op.operands.toList, opF f x = opF g x := opF_congr _ fun d hd => hh d (looks_ops d hd)
  unfold outN opN
  cases p with
  | none => dsimp only; rw [opR_congr h o.op hops]
  | some p => dsimp only; rw [opR_congr [] o.op hops]

theorem fpOp_congr {ρ ρ' : Operand → Value} (op : Op) (hh : ∀ x ∈ op.operands.toList, ρ x = ρ' x) : fpOp pc ρ op = fpOp pc ρ' op := by
  cases op with
  | load t a => simp only [fpOp, hh a (by simp [Op.operands])]
  | store t a v => simp only [fpOp, hh a (by simp [Op.operands])]
  | call c =>
    have hh' : ∀ x ∈ c.operands, ρ x = ρ' x := fun x hx => hh x (by simpa [Op.operands] using hx)
    have hargs : opvs ρ c.args.toList = opvs ρ' c.args.toList := opvs_congr _ fun x hx => hh' x (by simp only [Call.operands, Array.mem_append]; exact .inr (Array.mem_toList_iff.1 hx))
    simp only [fpOp]
    cases hc : c.callee with
    | value f =>
      have : ρ f = ρ' f := hh' f (by simp [Call.operands, hc])
      simp only [this, hargs]
    | builtin b => rfl
    | invoke r m => rfl
  | _ => rfl

theorem fpN_congr {p : Option Nat} {all : List Oper} {o : Oper} {f g : Nat → Value} (hh : ∀ d ∈ looks all o, f d = g d) : fpN pc p o f = fpN pc p o g := by
  unfold fpN
  split
  · rfl
  · exact fpOp_congr _ (opF_congr _ fun d hd => hh d (looks_ops d hd))

theorem eff_no (hpc : pc = true → PureF Φ) {p : Option Nat} {o : Oper} {f : Nat → Value} {h h' : Hp} {v : Value} (hf : fpN pc p o f = .no) (hout : outN T M Φ p o f h = some (v, h')) :
    h' = h ∧ ∀ h2, outN T M Φ p o f h2 = some (v, h2) := by
  unfold fpN at hf
  split at hf
  · cases hf
  have hm : memK pc o.op = 0 := by
    unfold fpOp at hf
    split at hf
    · split at hf <;> cases hf
    · split at hf <;> cases hf
    · rename_i c hc
      split at hf
      · split at hf
        · cases pc <;> cases hf
        · cases hf
      · split at hf
        · rw [hc]; assumption
        · cases hf
      · cases hf
    · split at hf
      · assumption
      · cases hf
  rw [outN_some] at hout
  have h1 := opR_keeps hpc (by omega) hout
  refine ⟨h1, fun h2 => ?_⟩
  rw [outN_some]
  simp only [opN] at hout ⊢
  rw [opR_blind (h := h) h2 hm, hout]
  rfl

theorem eff_rd (hpc : pc = true → PureF Φ) {p : Option Nat} {o : Oper} {f : Nat → Value} {h h' : Hp} {v : Value} {l : List Nat} (hf : fpN pc p o f = .rd l) (hout : outN T M Φ p o f h = some (v, h')) :
    h' = h ∧ ∀ h2, (∀ b ∈ l, nth h2 b = nth h b) → outN T M Φ p o f h2 = some (v, h2) := by
  unfold fpN at hf
  split at hf
  · cases hf
  rw [outN_some] at hout
  unfold fpOp at hf
  split at hf
  · rename_i t a hop
    rw [hop] at hout
    simp only [opN, opR] at hout
    split at hout
    · rename_i ti ht
      split at hout
      · rename_i b' off hx
        split at hout
        · rename_i cells t' hb'
          split at hout
          · rename_i v' hv'
            cases hout
            refine ⟨rfl, fun h2 h3 => ?_⟩
            rw [outN_some, hop]
            have hb2 : nth h2 b' = nth h b' := h3 b' (by
              rw [hx] at hf
              simp only [blockOf, FP.rd.injEq] at hf
              rw [← hf]; simp)
            simp only [opN, opR, ht, hx, hb2, hb', hv']
          · cases hout
        · cases hout
      · cases hout
    · cases hout
  · split at hf <;> cases hf
  · rename_i c hop
    rw [hop] at hout
    simp only [opN, opR, callV] at hout
    split at hf
    · rename_i g hcal
      rw [hcal] at hout
      dsimp only at hout
      split at hf
      · rename_i f0 first captured hg
        cases pc
        · cases hf
        · cases hf
          split at hout
          · rename_i f' first' captured' hg'
            rw [hg] at hg'
            cases hg'
            have hp := hpc rfl f' (appL first (appL (opvs (opF f) c.args.toList) captured))
            have e1 := hp h h fun _ _ => rfl
            rw [hout] at e1
            simp at e1
            refine ⟨e1, fun h2 h3 => ?_⟩
            rw [outN_some, hop]
            simp only [opN, opR, callV, hcal, hg]
            rw [hp h h2 h3, hout]
            rfl
          · cases hout
      · cases hf
    · split at hf <;> cases hf
    · cases hf
  · split at hf <;> cases hf

theorem eff_wr {p : Option Nat} {o : Oper} {f : Nat → Value} {h h' : Hp} {v : Value} {b : Nat} (hf : fpN pc p o f = .wr b) (hout : outN T M Φ p o f h = some (v, h')) :
    ∃ x, h' = h.set b x ∧ ∀ h2, nth h2 b = nth h b → outN T M Φ p o f h2 = some (v, h2.set b x) := by
  rw [outN_some] at hout
  unfold fpN at hf
  split at hf
  · cases hf
    simp only [opN] at hout
    split at hout
    · rename_i g v' x hv
      cases hout
      refine ⟨x, rfl, fun h2 _ => ?_⟩
      rw [outN_some]
      simp only [opN, hv]
    · cases hout
  unfold fpOp at hf
  split at hf
  · split at hf <;> cases hf
  · rename_i t a y hop
    rw [hop] at hout
    have hblk : blockOf (opF f a) = some b := by
      split at hf
      · cases hf; assumption
      · cases hf
    simp only [opN, opR] at hout
    split at hout
    · rename_i ti ht
      split at hout
      · rename_i b' off hx
        rw [hx] at hblk
        cases hblk
        split at hout
        · rename_i cells t' hb'
          split at hout
          · rename_i c2 hc2
            cases hout
            refine ⟨_, setL_eq _ _ _, fun h2 h3 => ?_⟩
            rw [outN_some, hop]
            simp only [opN, opR, ht, hx, h3, hb', hc2, setL_eq]
          · cases hout
        · cases hout
      · cases hout
    · cases hout
  · split at hf
    · split at hf
      · cases pc <;> cases hf
      · cases hf
    · split at hf <;> cases hf
    · cases hf
  · split at hf <;> cases hf

/-- The two may change places. -/
def CT (all : List Oper) (F : Nat → FP) (i j : Nat) : Prop :=
  ∀ x y, all[i]? = some x → all[j]? = some y → apartRegs all x y = true ∧ disj (F i) (F j) = true

def runsT (T : Tab) (M : Prims) (Φ : Fns) (pc : Bool) (all : List Oper) (nm : Nat → Option Nat) (F : Nat → FP) : List Nat → S → S → Prop
  | [], s, s' => s = s'
  | i :: l, s, s' => ∃ o v h1, all[i]? = some o ∧ outN T M Φ (nm i) o s.1 s.2 = some (v, h1) ∧ fpN pc (nm i) o s.1 = F i ∧ runsT T M Φ pc all nm F l (upd o.dst v s.1, h1) s'

theorem runN_of_runsT {all : List Oper} {nm : Nat → Option Nat} {F : Nat → FP} : ∀ {l : List Nat} {s s' : S}, runsT T M Φ pc all nm F l s s' → runN T M Φ all nm l s = some s'
  | [], s, s', h => by rw [show s = s' from h]; rfl
  | i :: l, s, s', ⟨o, v, h1', h1, h2, _, h4⟩ => by
    simp only [runN, stepN, h1, h2, Option.bind_some]
    exact runN_of_runsT h4

theorem nth_set_ne {α : Type} (l : List α) {b c : Nat} (x : α) (h : b ≠ c) : nth (l.set b x) c = nth l c := by rw [nth_eq, nth_eq, List.getElem?_set_ne h]

theorem not_memN {l : List Nat} {b c : Nat} (h : (!memN l c) = true) (hb : b ∈ l) : b ≠ c := by
  intro e
  subst e
  rw [(memN_iff _ _).2 hb] at h
  cases h

theorem swap (hpc : pc = true → PureF Φ) {all : List Oper} {nm : Nat → Option Nat} {F : Nat → FP} {i j : Nat} {l : List Nat} {s s' : S} (hr : runsT T M Φ pc all nm F (i :: j :: l) s s') (hc : CT all F i j) : runsT T M Φ pc all nm F (j :: i :: l) s s' := by
  obtain ⟨x, v, h1, hx, hox, hfx, y, u, h2, hy, hoy, hfy, hl⟩ := hr
  obtain ⟨hap, hdj⟩ := hc x y hx hy
  obtain ⟨f, h⟩ := s
  simp only [apartRegs, Bool.and_eq_true, Bool.not_eq_true'] at hap
  obtain ⟨⟨a1, a2⟩, a3⟩ := hap
  have i1 : ∀ d, x.dst = some d → d ∉ looks all y := fun d hd hm => by rw [hd, dstIn, (memN_iff _ _).2 hm] at a1; cases a1
  have i2 : ∀ d, y.dst = some d → d ∉ looks all x := fun d hd hm => by rw [hd, dstIn, (memN_iff _ _).2 hm] at a2; cases a2
  have i3 : ∀ d, x.dst = some d → y.dst ≠ some d := fun d hd he => by rw [hd, he, dstEq] at a3; simp at a3
  have cy : ∀ v h', outN T M Φ (nm j) y (upd x.dst v f) h' = outN T M Φ (nm j) y f h' := fun v h' => outN_congr (all := all) fun d hd => upd_other fun e => i1 d e hd
  have cx : ∀ v h', outN T M Φ (nm i) x (upd y.dst v f) h' = outN T M Φ (nm i) x f h' := fun v h' => outN_congr (all := all) fun d hd => upd_other fun e => i2 d e hd
  have ex : ∀ v, fpN pc (nm i) x (upd y.dst v f) = fpN pc (nm i) x f := fun v => fpN_congr (all := all) fun d hd => upd_other fun e => i2 d e hd
  have ey : ∀ v, fpN pc (nm j) y (upd x.dst v f) = fpN pc (nm j) y f := fun v => fpN_congr (all := all) fun d hd => upd_other fun e => i1 d e hd
  dsimp only at hox hoy hfx hfy hl
  rw [cy] at hoy
  rw [ey] at hfy
  have fin : ∀ h3, outN T M Φ (nm j) y f h = some (u, h3) → outN T M Φ (nm i) x f h3 = some (v, h2) → runsT T M Φ pc all nm F (j :: i :: l) (f, h) s' := by
    intro h3 e1 e2
    refine ⟨y, u, h3, hy, e1, hfy, x, v, h2, hx, by dsimp only; rw [cx]; exact e2, by rw [← hfx]; exact ex u, ?_⟩
    dsimp only
    rw [← upd_comm i3]
    exact hl
  rw [← hfx, ← hfy] at hdj
  cases h3 : fpN pc (nm i) x f with
  | no =>
    obtain ⟨rfl, e1⟩ := eff_no hpc h3 hox
    exact fin _ hoy (e1 _)
  | rd b =>
    obtain ⟨rfl, e1⟩ := eff_rd hpc h3 hox
    cases h4 : fpN pc (nm j) y f with
    | no =>
      obtain ⟨rfl, e2⟩ := eff_no hpc h4 hoy
      exact fin _ hoy hox
    | rd c =>
      obtain ⟨rfl, e2⟩ := eff_rd hpc h4 hoy
      exact fin _ hoy hox
    | wr c =>
      obtain ⟨z, rfl, e2⟩ := eff_wr h4 hoy
      rw [h3, h4] at hdj
      exact fin _ hoy (e1 _ fun b' hb' => nth_set_ne _ _ (Ne.symm (not_memN hdj hb')))
    | all => rw [h3, h4] at hdj; cases hdj
  | wr b =>
    obtain ⟨z, rfl, e1⟩ := eff_wr h3 hox
    cases h4 : fpN pc (nm j) y f with
    | no =>
      obtain ⟨rfl, e2⟩ := eff_no hpc h4 hoy
      exact fin h (e2 h) hox
    | rd c =>
      obtain ⟨rfl, e2⟩ := eff_rd hpc h4 hoy
      rw [h3, h4] at hdj
      exact fin h (e2 h fun b' hb' => (nth_set_ne _ _ (Ne.symm (not_memN hdj hb'))).symm) hox
    | wr c =>
      obtain ⟨z', rfl, e2⟩ := eff_wr h4 hoy
      rw [h3, h4] at hdj
      have hne : b ≠ c := fun e => by subst e; simp [disj] at hdj
      refine fin (h.set c z') (e2 h (nth_set_ne _ _ hne).symm) ?_
      rw [e1 _ (nth_set_ne _ _ (Ne.symm hne)), List.set_comm _ _ hne]
    | all => rw [h3, h4] at hdj; cases hdj
  | all =>
    cases h4 : fpN pc (nm j) y f with
    | no =>
      obtain ⟨rfl, e2⟩ := eff_no hpc h4 hoy
      exact fin h (e2 h) hox
    | _ => rw [h3, h4] at hdj; cases hdj

theorem moveFront (hpc : pc = true → PureF Φ) {all : List Oper} {nm : Nat → Option Nat} {F : Nat → FP} {y : Nat} {B : List Nat} {s' : S} : ∀ {A : List Nat} {s : S}, runsT T M Φ pc all nm F (A ++ y :: B) s s' → (∀ a ∈ A, CT all F a y) → runsT T M Φ pc all nm F (y :: (A ++ B)) s s'
  | [], s, h, _ => h
  | a :: A, s, ⟨o, v, h1', h1, h2, h3, h4⟩, hc => by
    have := moveFront hpc h4 fun b hb => hc b (by simp [hb])
    exact swap hpc ⟨o, v, h1', h1, h2, h3, this⟩ (hc a (by simp))

theorem runs_perm (hpc : pc = true → PureF Φ) {all : List Oper} {nm : Nat → Option Nat} {F : Nat → FP} {s' : S} : ∀ {Y Z : List Nat} {s : S}, Y.Nodup → Z.Pairwise (· < ·) → (∀ i, i ∈ Y ↔ i ∈ Z) → Y.Pairwise (fun i j => j < i → CT all F j i) →
    runsT T M Φ pc all nm F Z s s' → runsT T M Φ pc all nm F Y s s'
  | [], Z, s, _, _, hm, _, hr => by
    have : Z = [] := by
      cases Z with
      | nil => rfl
      | cons z Z => have := (hm z).2 (by simp); cases this
    subst this
    exact hr
  | y :: Y, Z, s, hn, hs, hm, hp, hr => by
    obtain ⟨n1, n2⟩ := List.nodup_cons.1 hn
    obtain ⟨p1, p2⟩ := List.pairwise_cons.1 hp
    have hy : y ∈ Z := (hm y).1 (by simp)
    obtain ⟨A, B, rfl⟩ := List.append_of_mem hy
    obtain ⟨s1, s2, s3⟩ := List.pairwise_append.1 hs
    obtain ⟨s4, s5⟩ := List.pairwise_cons.1 s2
    have hA : ∀ a ∈ A, a < y := fun a ha => s3 a ha y (by simp)
    have hAY : ∀ a ∈ A, a ∈ Y := fun a ha => by
      have := (hm a).2 (by simp [ha])
      rcases List.mem_cons.1 this with e | e
      · have := hA a ha; omega
      · exact e
    have h1 := moveFront hpc hr fun a ha => p1 a (hAY a ha) (hA a ha)
    obtain ⟨o, v, h1', q1, q2, q3, q4⟩ := h1
    refine ⟨o, v, h1', q1, q2, q3, runs_perm hpc n2 ?_ (fun i => ?_) p2 q4⟩
    · exact List.pairwise_append.2 ⟨s1, s5, fun a ha b hb => s3 a ha b (by simp [hb])⟩
    · constructor
      · intro hi
        have := (hm i).1 (by simp [hi])
        rcases List.mem_append.1 this with e | e
        · simp [e]
        · rcases List.mem_cons.1 e with e | e
          · subst e; exact absurd hi n1
          · simp [e]
      · intro hi
        have hne : i ≠ y := by
          intro e
          subst e
          rcases List.mem_append.1 hi with e | e
          · have := hA i e; omega
          · have := s4 i e; omega
        have := (hm i).2 (by rcases List.mem_append.1 hi with e | e <;> simp [e])
        rcases List.mem_cons.1 this with e | e
        · exact absurd e hne
        · exact e

theorem nth_app {α : Type} (l m : List α) {b : Nat} (h : b < l.length) : nth (l ++ m) b = nth l b := by rw [nth_eq, nth_eq, List.getElem?_append_left h]

theorem allBelow_mem {n : Nat} : ∀ {l : List Nat}, allBelow n l = true → ∀ b ∈ l, b < n
  | [], _, b, h => by simp at h
  | x :: l, hl, b, h => by
    simp only [allBelow, Bool.and_eq_true, Nat.blt_eq] at hl
    rcases List.mem_cons.1 h with rfl | h
    · exact hl.1
    · exact allBelow_mem hl.2 b h

theorem al_pure {ρ : Operand → Value} {h h' : Hp} {op : Op} {v : Value} (ha : isAl op = true) (hop : opR T M Φ ρ h op = some (true, v, h')) :
    ∃ x, h' = h ++ [x] ∧ v = nameV (lenL h) v ∧ ∀ h2, opR T M Φ ρ h2 op = some (true, nameV (lenL h2) v, h2 ++ [x]) := by
  cases op with
  | alloc t =>
    simp only [opR] at hop
    split at hop
    · rename_i ti ht
      cases hop
      exact ⟨_, appL_eq _ _, rfl, fun h2 => by simp only [opR, ht, appL_eq]; rfl⟩
    · cases hop
  | box t x =>
    simp only [opR] at hop
    split at hop
    · cases hop
    · rename_i vs hvs
      cases hop
      exact ⟨_, appL_eq _ _, rfl, fun h2 => by simp only [opR, hvs, appL_eq]; rfl⟩
  | buildSlice t n parts =>
    simp only [opR] at hop
    split at hop
    · rename_i _ _ el _ ht
      split at hop
      · rename_i ei hel
        split at hop
        · rename_i hb
          split at hop
          · rename_i l hl
            cases hop
            exact ⟨_, appL_eq _ _, rfl, fun h2 => by simp only [opR, ht, hel, hb, hl, appL_eq]; rfl⟩
          · cases hop
        · cases hop
      · cases hop
    · cases hop
  | _ => simp [isAl] at ha

/-- What the look saw of an operation. -/
structure Saw (o : Oper) (t : Option Nat × FP) : Prop where
  bare : bare o
  name : ∀ p, t.1 = some p → isAl o.op = true ∧ t.2 = .wr p

/-- The text's order, with room for all blocks from the start. -/
theorem fpRun_runs (hpc : pc = true → PureF Φ)
    {all : List Oper} {nm : Nat → Option Nat} {F : Nat → FP} : ∀ {l : List Oper} {j : Nat} {e : Env} {f : Nat → Value} {h : Hp} {ts : List (Option Nat × FP)} {f' : Nat → Value} {h' : Hp}, all.drop j = l → getE e = f → fpRun T M Φ pc l e h = some ts →
    (∀ i, i < ts.length → nm (j + i) = (ts.getD i (none, .all)).1 ∧ F (j + i) = (ts.getD i (none, .all)).2) →
    runI T M Φ all (List.range' j l.length) (f, h) = some (f', h') →
    ∃ x, h'.length = h.length + x ∧ ts.length = l.length ∧ (∀ (i : Nat) (o : Oper) (t : Option Nat × FP), l[i]? = some o → ts[i]? = some t → Saw o t) ∧ (∀ (i p : Nat), (ts.getD i (none, .all)).1 = some p → h.length ≤ p ∧ p < h'.length) ∧ (∀ (i k p : Nat), (ts.getD i (none, .all)).1 = some p → (ts.getD k (none, .all)).1 = some p → i = k) ∧
    ∀ z : Hp, z.length = x → runsT T M Φ pc all nm F (List.range' j l.length) (f, h ++ z) (f', h')
  | [], j, e, f, h, ts, f', h', _, _, hf, _, hr => by
    cases hf
    cases hr
    refine ⟨0, rfl, rfl, by simp, by simp, by simp, fun z hz => ?_⟩
    have : z = [] := List.length_eq_zero_iff.1 hz
    subst this
    show (f, h ++ []) = (f, h)
    rw [List.append_nil]
  | o :: l, j, e, f, h, ts, f', h', hd, he, hf, hF, hr => by
    subst he
    have ho : all[j]? = some o := by
      have : (all.drop j)[0]? = some o := by rw [hd]; rfl
      simpa using this
    have hd' : all.drop (j + 1) = l := by
      have : (all.drop j).drop 1 = l := by rw [hd]; rfl
      rw [List.drop_drop] at this
      exact this
    simp only [fpRun] at hf
    split at hf
    case h_2 => cases hf
    rename_i hg hp
    have hb : bare o := ⟨hg, hp⟩
    split at hf
    case h_2 => cases hf
    rename_i g v h1 hop
    split at hf
    case h_2 => cases hf
    rename_i t ht
    rw [List.length_cons, List.range'_succ] at hr ⊢
    simp only [runI, ho] at hr
    split at hr
    · cases hr
    rename_i s1 hst
    have hg' : g = true ∧ s1 = (upd o.dst v (getE e), h1) := by
      unfold stepD outD guardD at hst
      rw [hb.1, hb.2] at hst
      dsimp only at hst
      rw [← opv_eq, hop] at hst
      cases g
      · cases hst
      · cases hst; exact ⟨rfl, rfl⟩
    obtain ⟨rfl, rfl⟩ := hg'
    have step : ∀ u : Option Nat × FP, ts = u :: t → (∀ i, i < t.length → nm (j + 1 + i) = (t.getD i (none, .all)).1 ∧ F (j + 1 + i) = (t.getD i (none, .all)).2) := by
      intro u hu i hi
      have := hF (i + 1) (by rw [hu]; simp; omega)
      rw [hu, List.getD_cons_succ] at this
      rw [show j + 1 + i = j + (i + 1) by omega]
      exact this
    have hF0 : ∀ u : Option Nat × FP, ts = u :: t → nm j = u.1 ∧ F j = u.2 := by
      intro u hu
      have := hF 0 (by rw [hu]; simp)
      rw [hu] at this
      simpa using this
    split at hf
    · rename_i hal
      cases hf
      obtain ⟨x, q1, q2, q3, q4, q5, q6⟩ := fpRun_runs hpc hd' (getE_putE _ _ _) ht (step _ rfl) hr
      obtain ⟨e1, e2⟩ := hF0 _ rfl
      obtain ⟨blk, r1, r2, r3⟩ := al_pure hal hop
      subst r1
      rw [List.length_append, List.length_singleton] at q1
      refine ⟨x + 1, by omega, by simp [q2], ?_, ?_, ?_, fun z hz => ?_⟩
      · intro i o' t' hi hi'
        cases i with
        | zero => simp at hi hi'; subst hi; subst hi'; exact ⟨hb, fun p hp => by cases hp; exact ⟨hal, rfl⟩⟩
        | succ i => exact q3 i o' t' (by simpa using hi) (by simpa using hi')
      · intro i p hi
        cases i with
        | zero => simp [lenL_eq] at hi; subst hi; omega
        | succ i =>
          rw [List.getD_cons_succ] at hi
          have := q4 i p hi
          simp at this
          omega
      · intro i k p hi hk
        cases i with
        | zero =>
          cases k with
          | zero => rfl
          | succ k =>
            simp [lenL_eq] at hi
            rw [List.getD_cons_succ] at hk
            have := q4 k p hk
            simp at this
            omega
        | succ i =>
          rw [List.getD_cons_succ] at hi
          cases k with
          | zero =>
            simp [lenL_eq] at hk
            have := q4 i p hi
            simp at this
            omega
          | succ k =>
            rw [List.getD_cons_succ] at hk
            rw [q5 i k p hi hk]
      · cases z with
        | nil => simp at hz
        | cons z0 z =>
          simp only [List.length_cons, Nat.add_right_cancel_iff] at hz
          have e3 : outN T M Φ (nm j) o (getE e) (h ++ z0 :: z) = some (v, (h ++ [blk]) ++ z) := by
            rw [outN_some, e1]
            simp only [opN]
            rw [← opv_eq, r3 []]
            simp only [List.nil_append]
            rw [show nameV (lenL h) (nameV (lenL ([] : Hp)) v) = v by
              rw [r2]
              cases v with
              | pointer a => cases a <;> rfl
              | slice a l c => cases a <;> rfl
              | _ => rfl]
            rw [lenL_eq]
            simp
          exact ⟨o, v, _, ho, e3, by rw [e1, e2]; rfl, q6 z hz⟩
    · rename_i hal
      split at hf
      case h_2 => cases hf
      rename_i hin
      cases hf
      obtain ⟨e1, e2⟩ := hF0 _ rfl
      dsimp only at e1 e2
      rw [opv_eq] at hop hin e2
      have hfp : fpN pc (nm j) o (getE e) = fpOp pc (opF (getE e)) o.op := by rw [e1]; rfl
      have hout : outN T M Φ (nm j) o (getE e) h = some (v, h1) := by
        rw [outN_some, e1]
        exact hop
      have key : h1.length = h.length ∧ ∀ z, outN T M Φ (nm j) o (getE e) (h ++ z) = some (v, h1 ++ z) := by
        rw [lenL_eq] at hin
        cases h3 : fpOp pc (opF (getE e)) o.op with
        | no =>
          obtain ⟨rfl, w2⟩ := eff_no hpc (hfp.trans h3) hout
          exact ⟨rfl, fun z => w2 _⟩
        | rd b =>
          obtain ⟨rfl, w2⟩ := eff_rd hpc (hfp.trans h3) hout
          rw [h3] at hin
          exact ⟨rfl, fun z => w2 _ fun b' hb' => nth_app _ _ (allBelow_mem hin b' hb')⟩
        | wr b =>
          obtain ⟨y, rfl, w2⟩ := eff_wr (hfp.trans h3) hout
          rw [h3] at hin
          simp only [fpIn, Nat.blt_eq] at hin
          refine ⟨by simp, fun z => ?_⟩
          rw [w2 _ (nth_app _ _ hin), List.set_append_left _ _ hin]
        | all => rw [h3] at hin; cases hin
      obtain ⟨k1, k2⟩ := key
      obtain ⟨x, q1, q2, q3, q4, q5, q6⟩ := fpRun_runs hpc hd' (getE_putE _ _ _) ht (step _ rfl) hr
      refine ⟨x, by omega, by simp [q2], ?_, ?_, ?_, fun z hz => ⟨o, v, _, ho, k2 z, by rw [hfp, e2], q6 z hz⟩⟩
      · intro i o' t' hi hi'
        cases i with
        | zero => simp at hi hi'; subst hi; subst hi'; exact ⟨hb, fun p hp => by cases hp⟩
        | succ i => exact q3 i o' t' (by simpa using hi) (by simpa using hi')
      · intro i p hi
        cases i with
        | zero => simp at hi
        | succ i =>
          rw [List.getD_cons_succ] at hi
          have := q4 i p hi
          omega
      · intro i k p hi hk
        cases i with
        | zero => simp at hi
        | succ i =>
          cases k with
          | zero => simp at hk
          | succ k =>
            rw [List.getD_cons_succ] at hi hk
            rw [q5 i k p hi hk]

theorem dynOne_get {all : List Oper} {o : Oper} {t : FP} : ∀ {l : List Oper} {us : List (Option Nat × FP)} {j : Nat}, dynOne all o t j l us = true → ∀ (k : Nat) (x : Oper), l[k]? = some x → edgeTo (j + k) o.after.toList = true ∨ (apartRegs all x o = true ∧ disj (us.getD k (none, .all)).2 t = true)
  | [], _, _, _, k, x, h => by simp at h
  | y :: l, [], j, hd, k, x, h => by simp [dynOne] at hd
  | y :: l, u :: us, j, hd, 0, x, h => by
    simp only [dynOne, Bool.and_eq_true, Bool.or_eq_true] at hd
    simp at h
    subst h
    exact hd.1
  | y :: l, u :: us, j, hd, k + 1, x, h => by
    simp only [dynOne, Bool.and_eq_true, Bool.or_eq_true] at hd
    have := dynOne_get hd.2 k x (by simpa using h)
    rw [show j + 1 + k = j + (k + 1) by omega] at this
    simpa using this

theorem dynAll_get {all : List Oper} : ∀ {l before : List Oper} {tb ts : List (Option Nat × FP)} {i : Nat}, dynAll all i before tb l ts = true → before.length = i → tb.length = i → ∀ (k : Nat) (o : Oper), l[k]? = some o →
    edgesBack (i + k) o.after.toList = true ∧ ∀ (j : Nat) (x : Oper), j < i + k → (before ++ l)[j]? = some x → edgeTo j o.after.toList = true ∨ (apartRegs all x o = true ∧ disj ((tb ++ ts).getD j (none, .all)).2 (ts.getD k (none, .all)).2 = true)
  | [], _, _, _, _, _, _, _, k, o, h => by simp at h
  | o' :: l, _, _, [], _, hd, _, _, _, _, _ => by simp [dynAll] at hd
  | o' :: l, before, tb, t :: ts, i, hd, hb, htb, 0, o, h => by
    simp only [dynAll, Bool.and_eq_true] at hd
    simp at h
    subst h
    refine ⟨hd.1.1, fun j x hj hx => ?_⟩
    rw [List.getElem?_append_left (by omega)] at hx
    have := dynOne_get hd.1.2 j x hx
    rw [Nat.zero_add] at this
    rw [List.getD_eq_getElem?_getD, List.getElem?_append_left (by omega), ← List.getD_eq_getElem?_getD]
    simpa using this
  | o' :: l, before, tb, t :: ts, i, hd, hb, htb, k + 1, o, h => by
    simp only [dynAll, Bool.and_eq_true, appL_eq] at hd
    have := dynAll_get hd.2 (by simp [hb]) (by simp [htb]) k o (by simpa using h)
    rw [show i + 1 + k = i + (k + 1) by omega] at this
    simpa using this


/-- The machine carries it out. -/
theorem stepN_sound (hT : TabOK P T) (hΦ : FnsOK P Φ) {ops : Array Oper} {tn : Nat} (hdst : dstsOK tn ops.toList = true) {w0 w : World} {β0 β : List (Option Nat)} {h : Hp} {f : Nat → Value} {a : Act} {i : Nat} {o : Oper} (ho : ops.toList[i]? = some o) (hb : bare o) {p : Option Nat}
    {v : Value} {h' : Hp} (hout : outN T M0 Φ p o f h = some (v, h')) (hp : ∀ q, p = some q → isAl o.op = true ∧ β[q]? = some none) (hf : FR tn β f a) (hr : Rel w0 β0 β h w) {K : Act → World → Prop} {Q : Exit → Act → World → Prop}
    (hk : ∀ (β' : List (Option Nat)) (a' : Act) (w' : World), (p = none → ∃ γ, β' = β ++ γ) → (∀ q, p = some q → ∃ b, β' = β.set q (some b)) → FR tn β' (upd o.dst v f) a' → Rel w0 β0 β' h' w' → K a' w') : wpOp P ops Q i K a w := by
  have hdo := dstsOK_get _ hdst i o ho
  rw [outN_some] at hout
  unfold wpOp
  rw [show ops[i]? = some o by simpa using ho]
  dsimp only
  have hw : Region.wanted o (yielded ops a.tmps) = true := by
    unfold Region.wanted
    rw [hb.1]
  rw [hw, if_pos rfl]
  left
  cases p with
  | none =>
    refine op_goes hT hΦ hr (opF_rel hf) o hout K Q fun γ v' w' hr' hv' => hk (β ++ γ) _ w' (fun _ => ⟨γ, rfl⟩) (fun q hq => by cases hq) ((hf.mono γ).put hdo hv') hr'
  | some q =>
    obtain ⟨hal, hq⟩ := hp q rfl
    simp only [opN] at hout
    split at hout
    case h_2 => cases hout
    rename_i g v0 x hop
    cases hout
    obtain ⟨cells, cells', t, mk, e1, e2, e3, e4, e5, _⟩ := al_run hT (opF_rel hf) w o hal hop
    simp only [List.nil_append, List.cons.injEq, and_true] at e1
    subst e1
    unfold Oper.wp
    rw [e2]
    obtain ⟨hx, hrel⟩ := hr.fill hq t e3
    have hlt : q < β.length := (List.getElem?_eq_some_iff.1 hq).1
    exact hk _ _ _ (fun hn => by cases hn) (fun q' hq' => by cases hq'; exact ⟨_, rfl⟩) (FR.put (f := f) ⟨fun d => (hf.reg d).ext hx, hf.size, hf.defers⟩ hdo (e4 _ q _ (by simp [hlt]))) hrel

/-- A region, where its order is drawn. -/
theorem dyn_sound (hpc : pc = true → PureF Φ) (hT : TabOK P T) (hΦ : FnsOK P Φ) {ops : Array Oper} {tn : Nat} (hdst : dstsOK tn ops.toList = true) {e : Env} {h : Hp} (hd : dynOK T M0 Φ pc ops.toList e h = true)
    {w0 w : World} {β0 β : List (Option Nat)} {Q : Exit → Act → World → Prop} {a : Act} {f' : Nat → Value} {h' : Hp} (hrun : runI T M0 Φ ops.toList (List.range' 0 ops.size) (getE e, h) = some (f', h'))
    {listed : Array Bool} (hs : Seen ops listed []) (hf : FR tn β (getE e) a) (hr : Rel w0 β0 β h w)
    (hk : ∀ γ a' w', FR tn (β ++ γ) f' a' → Rel w0 β0 (β ++ γ) h' w' → Q .normal a' w') : wpAny P .any ops Q ops.size listed a w := by
  unfold dynOK at hd
  split at hd
  case h_2 => cases hd
  rename_i ts hts
  have hg := dynAll_get hd rfl rfl
  have hrun' : runI T M0 Φ ops.toList (List.range' 0 ops.toList.length) (getE e, h) = some (f', h') := by rw [Array.length_toList]; exact hrun
  obtain ⟨x, q1, q2, q3, q4, q5, q6⟩ := fpRun_runs (nm := fun i => (ts.getD i (none, .all)).1) (F := fun i => (ts.getD i (none, .all)).2) hpc rfl rfl hts (fun i _ => by rw [Nat.zero_add]; exact ⟨rfl, rfl⟩) hrun'
  have q6' := q6 (List.replicate x ([], 0)) (by simp)
  rw [Array.length_toList] at q6'
  have hx := hr.holes (List.replicate x ([], 0))
  rw [List.length_replicate] at hx
  have hback : Backs ops := fun i o ho e' he' hb' => by
    have := (hg i o ho).1
    rw [Nat.zero_add] at this
    exact edgesBack_lt this e' he' hb'
  have hsaw : ∀ i o, ops.toList[i]? = some o → bare o ∧ ∀ p, (ts.getD i (none, .all)).1 = some p → isAl o.op = true := by
    intro i o ho
    have hlt : i < ts.length := by
      rw [q2]
      exact (List.getElem?_eq_some_iff.1 ho).1
    have ht : ts[i]? = some ts[i] := by simp [hlt]
    have := q3 i o _ ho ht
    refine ⟨this.bare, fun p hp => ?_⟩
    rw [List.getD_eq_getElem?_getD, ht] at hp
    exact (this.name p hp).1
  -- what holds behind the operations X
  let R : List Nat → S → Act → World → Prop := fun X s a w => ∃ γ : List (Option Nat), FR tn (β ++ γ) s.1 a ∧ Rel w0 β0 (β ++ γ) s.2 w ∧ ∀ i, i ∉ X → ∀ p, (ts.getD i (none, .all)).1 = some p → (β ++ γ)[p]? = some none
  refine wpAny_gen (σ := S) (st := stepN T M0 Φ ops.toList fun i => (ts.getD i (none, .all)).1) (run := runN T M0 Φ ops.toList fun i => (ts.getD i (none, .all)).1) (runN_append _ _) (fun _ _ _ => rfl) (fun _ => rfl) hback (R := R)
    (s0 := (getE e, h ++ List.replicate x ([], 0))) (s1 := (f', h')) ?_ (fun Y hn hp hm => ?_) ops.size listed [] _ a w (by simp) hs (by simp) rfl ⟨List.replicate x none, hf.mono _, hx, fun i _ p hp => ?_⟩ fun X' a' w' ⟨γ, h1, h2, _⟩ => hk γ a' w' h1 h2
  · intro X i s s' a w K hiX hi hst ⟨γ, h1, h2, h3⟩ hk'
    have ho : ops.toList[i]? = some ops[i] := by simp [hi]
    unfold stepN at hst
    rw [ho] at hst
    dsimp only at hst
    split at hst
    case h_2 => cases hst
    rename_i v h4 hout
    cases hst
    obtain ⟨hb, hal⟩ := hsaw i _ ho
    refine stepN_sound hT hΦ hdst ho hb hout (fun q hq => ⟨hal q hq, h3 i hiX q hq⟩) h1 h2 fun β' a' w' g1 g2 h1' h2' => ?_
    have hother : ∀ j, j ≠ i → ∀ p, (ts.getD j (none, .all)).1 = some p → (β ++ γ)[p]? = some none → β'[p]? = some none := by
      intro j hj p hp h5
      cases hpi : (ts.getD i (none, .all)).1 with
      | none =>
        obtain ⟨γ'', e1⟩ := g1 hpi
        rw [e1, List.getElem?_append_left (List.getElem?_eq_some_iff.1 h5).1]
        exact h5
      | some q =>
        obtain ⟨b, e1⟩ := g2 q hpi
        rw [e1, List.getElem?_set_ne]
        · exact h5
        · intro e'
          subst e'
          exact hj (q5 j i q hp hpi)
    have hpre : ∃ γ', β' = β ++ γ' := by
      cases hp : (ts.getD i (none, .all)).1 with
      | none =>
        obtain ⟨γ', e1⟩ := g1 hp
        exact ⟨γ ++ γ', by rw [e1, List.append_assoc]⟩
      | some q =>
        obtain ⟨b, e1⟩ := g2 q hp
        have := q4 i q hp
        exact ⟨γ.set (q - β.length) (some b), by rw [e1, List.set_append_right _ _ (by rw [hr.len]; omega)]⟩
    obtain ⟨γ', rfl⟩ := hpre
    refine hk' a' w' ⟨γ', h1', h2', fun j hj p hp => ?_⟩
    exact hother j (fun e' => hj (by simp [e'])) p hp (h3 j (fun hm => hj (by simp [hm])) p hp)
  · refine runN_of_runsT (pc := pc) (F := fun i => (ts.getD i (none, .all)).2) (runs_perm hpc hn ?_ (fun i => ?_) ?_ q6')
    · rw [← List.range_eq_range']; exact List.pairwise_lt_range
    · rw [hm]; simp [List.mem_range']
    · refine hp.imp_of_mem fun {i j} hi hj hne hlt => ?_
      intro x y hx hy
      have hio : ops[i]? = some y := by simpa using hy
      have := (hg i y (by simpa using hy)).2 j x (by omega) (by simpa using hx)
      rcases this with h1 | h1
      · obtain ⟨e', he', hb', hon⟩ := edgeTo_mem h1
        exact absurd hon (hne hlt y hio e' he' hb')
      · exact ⟨h1.1, by simpa using h1.2⟩
  · have := q4 i p hp
    rw [List.getElem?_append_right (by rw [hr.len]; omega), List.getElem?_replicate, if_pos (by rw [hr.len]; omega)]

/-- A region. -/
theorem region_sound (hm : P.follows .mixedOrders = true) (hpc : pc = true → PureF Φ) (hT : TabOK P T) (hΦ : FnsOK P Φ) {ops : Array Oper} {tn id : Nat} {draw : Bool} {e : Env} {h : Hp} (hok : regionOK T M0 Φ pc tn ops.toList draw e h = true)
    {w0 w : World} {β0 β : List (Option Nat)} {Q : Exit → Act → World → Prop} {a : Act} {res : Type} {k : Env → Hp → Option res} {r : res} (hev : evOps T M0 Φ ops.toList ops.toList e h k = some r) (hf : FR tn β (getE e) a) (hr : Rel w0 β0 β h w)
    (hk : ∀ γ e' h' a' w', k e' h' = some r → FR tn (β ++ γ) (getE e') a' → Rel w0 β0 (β ++ γ) h' w' → Q .normal a' w') : (Code.region id ops draw).wp P Q a w := by
  simp only [regionOK, Bool.and_eq_true] at hok
  obtain ⟨hdst, hdr⟩ := hok
  obtain ⟨f', h', e', h1, h2, h3⟩ := evOps_run ops.toList ops.toList 0 e h k r rfl hev
  rw [Array.length_toList] at h1
  have hk' : ∀ γ a' w', FR tn (β ++ γ) f' a' → Rel w0 β0 (β ++ γ) h' w' → Q .normal a' w' := fun γ a' w' hf' hr' => hk γ e' h' a' w' h3 (by rw [h2]; exact hf') hr'
  cases draw with
  | false =>
    refine wp_region ?_
    rw [List.range_eq_range']
    exact wpOps_of_run hT hΦ hdst _ _ _ _ _ _ h1 hf hr hk'
  | true =>
    refine wp_region_any hm ?_
    have hrep : ∀ i, (Array.replicate ops.size false).getD i false = false := fun i => by
      rw [Array.getD_eq_getD_getElem?, Array.getElem?_replicate]
      split <;> simp
    have hseen : Seen ops (Array.replicate ops.size false) [] := ⟨by simp, fun i => by rw [hrep i]; simp, by simp, by simp⟩
    simp only [cond_true, Bool.or_eq_true] at hdr
    rcases hdr with hdr | hdr
    · exact wpAny_of_seen hT hΦ (fun i o ho => (drawOK_spec hdr i o ho).1) hdst (anyOrder_static hpc hdr _) h1 hseen hf (hr.drew _) hk'
    · exact dyn_sound hpc hT hΦ hdst hdr h1 hseen hf (hr.drew _) hk'

end
end Go.Lan
