/- Each operation does in the machine what the interpreter says. -/
import Derived.Test.YtpgjihkaocahbaaKb
namespace Go.Lan

/-- The operations on numbers, as the model has them; of a NaN that comes of one it is not said which. -/
def M0 : Prims where
  add x y := ((FloatKind.f64.format).add x y).getD nanW
  sub x y := ((FloatKind.f64.format).sub x y).getD nanW
  mul x y := ((FloatKind.f64.format).mul x y).getD nanW
  quo x y := ((FloatKind.f64.format).div x y).getD nanW
  eq x y := (FloatKind.f64.format).order x y == some .eq
  ne x y := (FloatKind.f64.format).order x y != some .eq
  lt x y := (FloatKind.f64.format).order x y == some .lt
  le x y := (FloatKind.f64.format).order x y == some .lt || (FloatKind.f64.format).order x y == some .eq
  gt x y := (FloatKind.f64.format).order x y == some .gt
  ge x y := (FloatKind.f64.format).order x y == some .gt || (FloatKind.f64.format).order x y == some .eq
  neg x := cond (isNaNw x) nanW (Op.negFloat .f64 x)
  ofInt n := FloatKind.f64.nearest n
  min x y := match (FloatKind.f64.format).order x y with
    | none => nanW
    | some .lt => x
    | some .gt => y
    | some .eq => if (FloatKind.f64.decode x).neg then x else y
  max x y := match (FloatKind.f64.format).order x y with
    | none => nanW
    | some .lt => y
    | some .gt => x
    | some .eq => if (FloatKind.f64.decode x).neg then y else x
  toInt x := ((FloatKind.f64.decode x).toInt .zero).getD 0
  okToInt x := match (FloatKind.f64.decode x).toInt .zero with
    | some n => decide (IntKind.i64.min ≤ n) && decide (n ≤ IntKind.i64.max)
    | none => false
  and k a b := k.wrap ((BitVec.ofInt k.bits a &&& BitVec.ofInt k.bits b).toNat)
  or k a b := k.wrap ((BitVec.ofInt k.bits a ||| BitVec.ofInt k.bits b).toNat)
  xor k a b := k.wrap ((BitVec.ofInt k.bits a ^^^ BitVec.ofInt k.bits b).toNat)
  andNot k a b := k.wrap ((BitVec.ofInt k.bits a &&& ~~~(BitVec.ofInt k.bits b)).toNat)

/-! ### NaNs -/
abbrev D64 := FloatKind.f64.format
theorem isNaN_read {n : Nat} (h : isNaNw n = true) : ∃ s t, D64.read n = .nan s t := by
  unfold isNaNw FloatKind.decode at h
  generalize D64.read n = r at h
  cases r with
  | nan s t => exact ⟨s, t, rfl⟩
  | number s m e => cases h
  | infinity s => cases h
theorem nanW_nan : isNaNw nanW = true := by decide

/-- The operation has no answer where one of the two is a NaN. -/
def NaNop {α : Type} (f : Nat → Nat → Option α) : Prop := ∀ n y, isNaNw n = true → f n y = none ∧ f y n = none
theorem nan_add : NaNop D64.add := fun n y h => by
  obtain ⟨s, t, e⟩ := isNaN_read h
  unfold Ieee.Format.add
  rw [e]
  refine ⟨rfl, ?_⟩
  cases D64.read y <;> rfl
theorem nan_sub : NaNop D64.sub := fun n y h => by
  obtain ⟨s, t, e⟩ := isNaN_read h
  unfold Ieee.Format.sub
  rw [e]
  refine ⟨rfl, ?_⟩
  cases D64.read y <;> rfl
theorem nan_mul : NaNop D64.mul := fun n y h => by
  obtain ⟨s, t, e⟩ := isNaN_read h
  unfold Ieee.Format.mul
  rw [e]
  refine ⟨rfl, ?_⟩
  cases D64.read y <;> rfl
theorem nan_div : NaNop D64.div := fun n y h => by
  obtain ⟨s, t, e⟩ := isNaN_read h
  unfold Ieee.Format.div
  rw [e]
  refine ⟨rfl, ?_⟩
  cases D64.read y <;> rfl
theorem nan_order : NaNop D64.order := fun n y h => by
  obtain ⟨s, t, e⟩ := isNaN_read h
  unfold Ieee.Format.order
  rw [e]
  refine ⟨rfl, ?_⟩
  cases D64.read y <;> rfl

/-- The machine's word for ours. -/
def FW (a n : Nat) : Prop := n = a ∨ (a = nanW ∧ isNaNw n = true)
theorem FW.vr {a n : Nat} (h : FW a n) {β : List (Option Nat)} : VR β (.float .f64 a) (.float .f64 n) := by
  rcases h with rfl | ⟨rfl, h⟩
  · exact .float _ _
  · exact .nan h
theorem fw_of {β : List (Option Nat)} {a : Nat} {v' : Value} (h : VR β (.float .f64 a) v') : ∃ n, v' = .float .f64 n ∧ FW a n := by
  generalize hv : Value.float .f64 a = v at h
  cases h <;> cases hv
  · exact ⟨_, rfl, .inl rfl⟩
  · rename_i n h
    exact ⟨n, rfl, .inr ⟨rfl, h⟩⟩
theorem float_of {β : List (Option Nat)} {k : FloatKind} {a : Nat} {v' : Value} (h : VR β (.float k a) v') : ∃ n, v' = .float k n := by
  cases h
  · exact ⟨_, rfl⟩
  · exact ⟨_, rfl⟩
theorem op_cong {α : Type} {f : Nat → Nat → Option α} (hf : NaNop f) {a n b m : Nat} (h1 : FW a n) (h2 : FW b m) : f n m = f a b := by
  rcases h1 with rfl | ⟨rfl, h⟩
  · rcases h2 with rfl | ⟨rfl, h⟩
    · rfl
    · rw [(hf m n h).2, (hf nanW n nanW_nan).2]
  · rw [(hf n m h).1, (hf nanW b nanW_nan).1]
theorem isNaN_fw {a n : Nat} (h : FW a n) : isNaNw n = isNaNw a := by
  rcases h with rfl | ⟨rfl, h⟩
  · rfl
  · rw [h, nanW_nan]
theorem drawn_nan (t : Nat) : isNaNw ((t % 2) * 2 ^ 63 + 0x7ff0000000000000 + 1 + (t / 2) % (2 ^ 52 - 1)) = true := by
  have h1 : t % 2 < 2 := Nat.mod_lt _ (by decide)
  have h2 : (t / 2) % (2 ^ 52 - 1) < 2 ^ 52 - 1 := Nat.mod_lt _ (by decide)
  generalize t % 2 = a at h1
  generalize (t / 2) % (2 ^ 52 - 1) = b at h2
  have e : (a * 2 ^ 63 + 0x7ff0000000000000 + 1 + b) % D64.signWeight = 9218868437227405312 + 1 + b := by
    rw [show D64.signWeight = 2 ^ 63 by decide, show a * 2 ^ 63 + 0x7ff0000000000000 + 1 + b = (9218868437227405312 + 1 + b) + 2 ^ 63 * a by omega, Nat.add_mul_mod_self_left]
    exact Nat.mod_eq_of_lt (by omega)
  unfold isNaNw FloatKind.decode Ieee.Format.read
  dsimp only
  rw [e]
  have i1 : D64.binade = 4503599627370496 := by decide
  have i2 : D64.infRung = 9218868437227405312 := by decide
  rw [i1, i2, if_neg (by omega), if_neg (by omega), if_neg (by omega)]
  rfl
theorem isNaN_neg {n : Nat} (h : isNaNw n = true) : isNaNw (Op.negFloat .f64 n) = true := by
  have e : Op.negFloat .f64 n % D64.signWeight = n % D64.signWeight := by
    rw [show D64.signWeight = 2 ^ 63 by decide]
    show (n ^^^ 2 ^ 63) % 2 ^ 63 = _
    rw [Nat.xor_mod_two_pow, Nat.mod_self, Nat.xor_zero]
  unfold isNaNw FloatKind.decode Ieee.Format.read at h ⊢
  dsimp only at h ⊢
  rw [e]
  by_cases h1 : n % D64.signWeight < D64.binade
  · rw [if_pos h1] at h; cases h
  · rw [if_neg h1] at h ⊢
    by_cases h2 : n % D64.signWeight < D64.infRung
    · rw [if_pos h2] at h; cases h
    · rw [if_neg h2] at h ⊢
      by_cases h3 : n % D64.signWeight = D64.infRung
      · rw [if_pos h3] at h; cases h
      · rw [if_neg h3]; rfl

/-- Memory, and what draws are left, behind an operation that turns no memory. -/
def Drew (w w' : World) : Prop := ∃ d, w' = { w with drawn := d }
theorem Drew.refl (w : World) : Drew w w := ⟨w.drawn, rfl⟩

/-- What a call comes to, wherever it is made. -/
def CallOK (P : Program) (f : FuncId) (args : Array Value) (w : World) (R : Value → World → Prop) : Prop :=
  ∀ (o : Oper) (a : Act) (K : Act → World → Prop) (Q : Exit → Act → World → Prop), (∀ v w', R v w' → K (a.put o.dst v) w') → o.upon P a K Q ((callFunc f args).run P w)

theorem CallOK.mono {P : Program} {f : FuncId} {args : Array Value} {w : World} {R R' : Value → World → Prop} (h : CallOK P f args w R) (hr : ∀ v w', R v w' → R' v w') : CallOK P f args w R' :=
  fun o a K Q hk => h o a K Q fun v w' hv => hk v w' (hr v w' hv)

def FnsOK (P : Program) (Φ : Fns) : Prop :=
  ∀ f args h v h', Φ f args h = some (true, v, h') → ∀ β w args', Rel w β β h w → VRL β args args' →
    CallOK P f ⟨args'⟩ w fun v' w' => ∃ γ, Rel w β (β ++ γ) h' w' ∧ VR (β ++ γ) v v'

section
variable {P : Program} {T : Tab} {Φ : Fns} {β : List (Option Nat)} {w : World}

theorem sameK_iff {a b : IntKind} (h : sameK a b = true) : a = b := by simpa [sameK] using h

theorem choose_run {q : Question} (hq : q.forced = false) (w : World) : (choose q).run P w = .ok (q.cut (w.tape w.drawn q)) { w with drawn := w.drawn + 1 } := by
  simp [choose, Sem.run, hq]

/-- A float's operation: what it gives, or some NaN. -/
theorem float_run {op : BinOp} {f : Nat → Nat → Option Nat} (hf : NaNop f) (hop : ∀ x y, floatBits op .f64 x y = f x y) (ho : op = .add ∨ op = .sub ∨ op = .mul ∨ op = .quo) (t : TypeId) {a n b m : Nat} (h1 : FW a n) (h2 : FW b m) (w : World) :
    ∃ v' w', (binOp op t (.float .f64 n) (.float .f64 m)).run P w = .ok v' w' ∧ Drew w w' ∧ VR β (.float .f64 ((f a b).getD nanW)) v' := by
  have hc := op_cong hf h1 h2
  cases hr : f a b with
  | some r =>
    rw [hr] at hc
    exact ⟨_, w, run_float_arith w op t .f64 n m r ((hop n m).trans hc), Drew.refl w, .float _ _⟩
  | none =>
    rw [hr] at hc
    have hb : floatBits op .f64 n m = none := (hop n m).trans hc
    refine ⟨.float .f64 ((Question.nanBits .f64 n m).cut (w.tape w.drawn (.nanBits .f64 n m))), { w with drawn := w.drawn + 1 }, ?_, ⟨_, rfl⟩, .nan (drawn_nan _)⟩
    rcases ho with rfl | rfl | rfl | rfl <;> simp only [floatBits] at hb <;> simp [binOp, Op.floatArith, hb, Question.forced]

theorem binV_sound {op : BinOp} {x y v x' y' : Value} (h : binV M0 op x y = some (true, v)) (hx : VR β x x') (hy : VR β y y') (t : TypeId) :
    ∃ v' w', (binOp op t x' y').run P w = .ok v' w' ∧ Drew w w' ∧ VR β v v' := by
  have stay : ∀ {v'}, (binOp op t x' y').run P w = .ok v' w → VR β v v' → ∃ v' w', (binOp op t x' y').run P w = .ok v' w' ∧ Drew w w' ∧ VR β v v' := fun h1 h2 => ⟨_, w, h1, Drew.refl w, h2⟩
  cases x with
  | int k a =>
    cases y with
    | int k' b =>
      cases hx
      cases hy
      cases op
      case shl =>
        simp only [binV, Option.some.injEq, Prod.mk.injEq, decide_eq_true_eq] at h
        obtain ⟨h1, rfl⟩ := h
        exact stay (by simp [binOp, Op.shift, Int.not_lt.2 h1, shlV]) (.int _ _)
      case shr =>
        simp only [binV, Option.some.injEq, Prod.mk.injEq, decide_eq_true_eq] at h
        obtain ⟨h1, rfl⟩ := h
        exact stay (by simp [binOp, Op.shift, Int.not_lt.2 h1, shrV]) (.int _ _)
      all_goals
        simp only [binV] at h
        split at h
        · cases h
        · rename_i hk
          have hk := sameK_iff hk
          subst hk
          simp only [Option.some.injEq, Prod.mk.injEq, true_and, Bool.not_eq_true', decide_eq_false_iff_not] at h
          first
            | (subst h; refine stay ?_ (.int _ _); first | (simp [binOp, Op.intArith]; done) | (simp only [binOp, ne_eq, not_true_eq_false, if_false]; rfl))
            | (subst h; refine stay ?_ (.bool _); simp [binOp, Op.intCmp]; done)
            | (obtain ⟨h1, rfl⟩ := h; refine stay ?_ (.int _ _); simp [binOp, Op.intDiv, h1]; done)
    | _ => simp [binV] at h
  | float k a =>
    cases y with
    | float k' b =>
      cases k
      · simp [binV] at h
      cases k'
      · simp [binV] at h
      obtain ⟨n, rfl, h1⟩ := fw_of hx
      obtain ⟨m, rfl, h2⟩ := fw_of hy
      have ho := op_cong nan_order h1 h2
      cases op <;> simp only [binV, Option.some.injEq, Prod.mk.injEq, true_and, reduceCtorEq] at h
      case add => subst h; exact float_run nan_add (fun _ _ => rfl) (by simp) t h1 h2 w
      case sub => subst h; exact float_run nan_sub (fun _ _ => rfl) (by simp) t h1 h2 w
      case mul => subst h; exact float_run nan_mul (fun _ _ => rfl) (by simp) t h1 h2 w
      case quo => subst h; exact float_run nan_div (fun _ _ => rfl) (by simp) t h1 h2 w
      all_goals (subst h; exact stay (by simp [binOp, Op.floatCmp, M0, ho]) (.bool _))
    | _ => simp [binV] at h
  | _ => simp [binV] at h

theorem unV_sound {op : UnOp} {x v x' : Value} (h : unV M0 op x = some (true, v)) (hx : VR β x x') : ∃ v', (Op.unary op x').run P w = .ok v' w ∧ VR β v v' := by
  cases x <;> cases op <;> simp only [unV, Option.some.injEq, Prod.mk.injEq, true_and, reduceCtorEq] at h
  · cases hx; subst h; exact ⟨_, rfl, .bool _⟩
  · cases hx; subst h; exact ⟨_, by simp [Op.unary, Op.intArith], .int _ _⟩
  · rename_i k n
    cases k <;> simp only [Option.some.injEq, Prod.mk.injEq, true_and, reduceCtorEq] at h
    subst h
    obtain ⟨m, rfl, hm⟩ := fw_of hx
    refine ⟨_, rfl, ?_⟩
    show VR β (.float .f64 (cond (isNaNw n) nanW (Op.negFloat .f64 n))) (.float .f64 (Op.negFloat .f64 m))
    cases hn : isNaNw n with
    | true =>
      have : isNaNw m = true := by rw [isNaN_fw hm, hn]
      exact .nan (isNaN_neg this)
    | false =>
      rcases hm with rfl | ⟨rfl, _⟩
      · exact .float _ _
      · rw [nanW_nan] at hn; cases hn

theorem convV_sound {s d : TypeId} {k : TK} {x v x' : Value} (hs : ∃ u, P.underlying s = some u) {dd : TypeDesc} (hd : P.underlying d = some dd) (hk : kindOf dd = k)
    (h : convV M0 k x = some (true, v)) (hx : VR β x x') : ∃ v', (convert s d x').run P w = .ok v' w ∧ VR β v v' := by
  obtain ⟨u, hu⟩ := hs
  subst hk
  cases x <;> cases dd <;> simp only [kindOf, convV, Option.some.injEq, Prod.mk.injEq, true_and, reduceCtorEq] at h
  case int.int => cases hx; subst h; exact ⟨_, by cases u <;> simp [convert, run_underlying hu, run_underlying hd, Conv.intToInt] <;> rfl, .int _ _⟩
  case int.float =>
    cases hx
    rename_i k n fk
    cases fk <;> simp only [Option.some.injEq, Prod.mk.injEq, true_and, reduceCtorEq] at h
    subst h; exact ⟨_, by cases u <;> simp [convert, run_underlying hu, run_underlying hd, Conv.intToFloat] <;> rfl, .float _ _⟩
  case float.int =>
    rename_i fk n k
    cases fk <;> cases k <;> simp only [Option.some.injEq, Prod.mk.injEq, reduceCtorEq] at h
    obtain ⟨h1, rfl⟩ := h
    obtain ⟨n', rfl, hn'⟩ := fw_of hx
    simp only [M0] at h1
    split at h1
    · rename_i m hm
      have : n' = n := by
        rcases hn' with e | ⟨rfl, _⟩
        · exact e
        · have e : (FloatKind.f64.decode nanW).toInt .zero = none := by decide
          rw [e] at hm; cases hm
      subst this
      simp only [Bool.and_eq_true, decide_eq_true_eq] at h1
      refine ⟨.int .i64 m, ?_, by simp only [M0, hm, Option.getD_some]; exact .int _ _⟩
      exact run_convert_float_int w s d .f64 .i64 n' m (by simp [hu]) hd (by simp only [floatToIntVal, hm]; rw [if_pos h1])
    · cases h1
  case float.float =>
    rename_i fk n k
    cases fk <;> cases k <;> simp only [Option.some.injEq, Prod.mk.injEq, true_and, reduceCtorEq] at h
    subst h
    obtain ⟨n', rfl, hn'⟩ := fw_of hx
    exact ⟨_, run_convert_float_float w s d .f64 .f64 n' n' (by simp [hu]) hd (by simp [floatToFloatBits]), hn'.vr⟩

theorem isAgg_run {t : TypeId} {d : TypeDesc} (hd : P.underlying t = some d) (w : World) : (isAgg t).run P w = .ok (kindOf d).agg w := by
  unfold isAgg
  rw [Sem.run_bind, run_underlying hd w]
  cases d <;> rfl

theorem sizeOf_run {t : TypeId} {i : TypeInfo} (hi : P.info? t = some i) (w : World) : (sizeOf t).run P w = .ok i.size w := by simp [sizeOf, typeInfo, hi]

/-- A part of a struct or an array. -/
theorem partL_sound {t : TypeId} {ti : TI} {info : TypeInfo} {d : TypeDesc} (hi : P.info? t = some info) (hd : P.underlying t = some d) (hs : info.size = ti.size) (hk : kindOf d = ti.k)
    {cells cells' : List Value} {off : Nat} {v : Value} (h : partL ti cells off = some v) (hc : VRL β cells cells') :
    ∃ v', (part t ⟨cells'⟩ off).run P w = .ok v' w ∧ VR β v v' := by
  unfold partL at h
  unfold part
  rw [Sem.run_bind, isAgg_run hd, Result.andThen_ok, hk]
  split at h
  · rename_i ha
    split at h
    · rename_i hb
      cases h
      rw [ha]
      refine ⟨.agg ⟨(cells'.drop off).take ti.size⟩, ?_, .agg ?_⟩
      · simp [sizeOf_run hi, hs]
      · rw [takeL_eq, dropL_eq]; exact (hc.drop off).take _
    · cases h
  · rename_i ha
    rw [ha]
    rw [nth_eq] at h
    obtain ⟨v', h1, h2⟩ := hc.get off h
    exact ⟨v', by simp [h1], h2⟩

end
end Go.Lan
