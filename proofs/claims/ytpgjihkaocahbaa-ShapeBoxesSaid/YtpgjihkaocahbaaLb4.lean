import Derived.Test.YtpgjihkaocahbaaLb3
namespace Go.Lan
open Go.Proofs
def bits_Div64.L17.k {ρ : Type} (_ : Prims) (_ : Int → Int) (_ : Int → Bool) (s : Int × Int × Int × Int × Int × Int × Int × Int × Int) (kn kx : (Int × Int × Int × Int × Int × Int × Int × Int × Int) → Option ρ) : Option ρ :=
  cond (decide (s.2.2.2.2.2.2.2.1 ≥ 4294967296))
    (let x22 := IntKind.u64.wrap (s.2.2.2.2.2.2.2.1 - 1)
     let x23 := IntKind.u64.wrap (s.2.2.2.2.2.2.2.2 + s.2.2.1)
     cond (decide (x23 ≥ 4294967296))
       (kx (s.1, s.2.1, s.2.2.1, s.2.2.2.1, s.2.2.2.2.1, s.2.2.2.2.2.1, s.2.2.2.2.2.2.1, x22, x23))
       (kn (s.1, s.2.1, s.2.2.1, s.2.2.2.1, s.2.2.2.2.1, s.2.2.2.2.2.1, s.2.2.2.2.2.2.1, x22, x23)))
    (cond (decide ((IntKind.u64.wrap (s.2.2.2.2.2.2.2.1 * s.2.2.2.1)) > (IntKind.u64.wrap ((IntKind.u64.wrap (4294967296 * s.2.2.2.2.2.2.2.2)) + s.2.2.2.2.2.1))))
       (let x29 := IntKind.u64.wrap (s.2.2.2.2.2.2.2.1 - 1)
        let x30 := IntKind.u64.wrap (s.2.2.2.2.2.2.2.2 + s.2.2.1)
        cond (decide (x30 ≥ 4294967296))
          (kx (s.1, s.2.1, s.2.2.1, s.2.2.2.1, s.2.2.2.2.1, s.2.2.2.2.2.1, s.2.2.2.2.2.2.1, x29, x30))
          (kn (s.1, s.2.1, s.2.2.1, s.2.2.2.1, s.2.2.2.2.1, s.2.2.2.2.2.1, s.2.2.2.2.2.2.1, x29, x30)))
       (kx (s.1, s.2.1, s.2.2.1, s.2.2.2.1, s.2.2.2.2.1, s.2.2.2.2.2.1, s.2.2.2.2.2.2.1, s.2.2.2.2.2.2.2.1, s.2.2.2.2.2.2.2.2)))
def bits_Div64.L17.step (M : Prims) (s : Int × Int × Int × Int × Int × Int × Int × Int × Int) : Option (Bool × (Int × Int × Int × Int × Int × Int × Int × Int × Int)) := bits_Div64.L17.k M (bits_LeadingZeros64 M) (bits_LeadingZeros64.ok M) s (fun t => some (true, t)) (fun t => some (false, t))
def bits_Div64.L17 (M : Prims) (a0 : Int) (a1 : Int) (a2 : Int) (a3 : Int) (a4 : Int) (a5 : Int) (a6 : Int) (a7 : Int) (a8 : Int) : Int × Int × Int × Int × Int × Int × Int × Int × Int := (runL (bits_Div64.L17.step M) (4) (a0, a1, a2, a3, a4, a5, a6, a7, a8)).getD (a0, a1, a2, a3, a4, a5, a6, a7, a8)
def bits_Div64.L17.ok (M : Prims) (a0 : Int) (a1 : Int) (a2 : Int) (a3 : Int) (a4 : Int) (a5 : Int) (a6 : Int) (a7 : Int) (a8 : Int) : Bool := (runL (bits_Div64.L17.step M) (4) (a0, a1, a2, a3, a4, a5, a6, a7, a8)).isSome
def bits_Div64.L17.vals (s : Int × Int × Int × Int × Int × Int × Int × Int × Int) : List (Nat × Value) := [(2, .int .u64 s.1), (8, .int .u64 s.2.1), (9, .int .u64 s.2.2.1), (10, .int .u64 s.2.2.2.1), (11, .int .u64 s.2.2.2.2.1), (13, .int .u64 s.2.2.2.2.2.1), (14, .int .u64 s.2.2.2.2.2.2.1), (15, .int .u64 s.2.2.2.2.2.2.2.1), (16, .int .u64 s.2.2.2.2.2.2.2.2)]
def bits_Div64.L17.asgL : List Nat := [67, 68, 69, 70, 71, 72, 73, 74, 75, 76, 77, 78, 79, 80, 15, 81, 82, 83, 16, 84, 85]
noncomputable def bits_Div64.L17.body : Code := (nth (loopsOf (Try.f103.body.getD .skip)) 0).getD .skip
def bits_Div64.L24.k {ρ : Type} (_ : Prims) (_ : Int → Int) (_ : Int → Bool) (s : Int × Int × Int × Int × Int × Int × Int × Int × Int) (kn kx : (Int × Int × Int × Int × Int × Int × Int × Int × Int) → Option ρ) : Option ρ :=
  cond (decide (s.2.2.2.2.2.2.2.2 ≥ 4294967296))
    (let x41 := IntKind.u64.wrap (s.2.2.2.2.2.2.2.2 - 1)
     let x42 := IntKind.u64.wrap (s.2.2.2.2.2.2.1 + s.2.2.1)
     cond (decide (x42 ≥ 4294967296))
       (kx (s.1, s.2.1, s.2.2.1, s.2.2.2.1, s.2.2.2.2.1, s.2.2.2.2.2.1, x42, s.2.2.2.2.2.2.2.1, x41))
       (kn (s.1, s.2.1, s.2.2.1, s.2.2.2.1, s.2.2.2.2.1, s.2.2.2.2.2.1, x42, s.2.2.2.2.2.2.2.1, x41)))
    (cond (decide ((IntKind.u64.wrap (s.2.2.2.2.2.2.2.2 * s.2.2.2.1)) > (IntKind.u64.wrap ((IntKind.u64.wrap (4294967296 * s.2.2.2.2.2.2.1)) + s.2.2.2.2.1))))
       (let x48 := IntKind.u64.wrap (s.2.2.2.2.2.2.2.2 - 1)
        let x49 := IntKind.u64.wrap (s.2.2.2.2.2.2.1 + s.2.2.1)
        cond (decide (x49 ≥ 4294967296))
          (kx (s.1, s.2.1, s.2.2.1, s.2.2.2.1, s.2.2.2.2.1, s.2.2.2.2.2.1, x49, s.2.2.2.2.2.2.2.1, x48))
          (kn (s.1, s.2.1, s.2.2.1, s.2.2.2.1, s.2.2.2.2.1, s.2.2.2.2.2.1, x49, s.2.2.2.2.2.2.2.1, x48)))
       (kx (s.1, s.2.1, s.2.2.1, s.2.2.2.1, s.2.2.2.2.1, s.2.2.2.2.2.1, s.2.2.2.2.2.2.1, s.2.2.2.2.2.2.2.1, s.2.2.2.2.2.2.2.2)))
def bits_Div64.L24.step (M : Prims) (s : Int × Int × Int × Int × Int × Int × Int × Int × Int) : Option (Bool × (Int × Int × Int × Int × Int × Int × Int × Int × Int)) := bits_Div64.L24.k M (bits_LeadingZeros64 M) (bits_LeadingZeros64.ok M) s (fun t => some (true, t)) (fun t => some (false, t))
def bits_Div64.L24 (M : Prims) (a0 : Int) (a1 : Int) (a2 : Int) (a3 : Int) (a4 : Int) (a5 : Int) (a6 : Int) (a7 : Int) (a8 : Int) : Int × Int × Int × Int × Int × Int × Int × Int × Int := (runL (bits_Div64.L24.step M) (4) (a0, a1, a2, a3, a4, a5, a6, a7, a8)).getD (a0, a1, a2, a3, a4, a5, a6, a7, a8)
def bits_Div64.L24.ok (M : Prims) (a0 : Int) (a1 : Int) (a2 : Int) (a3 : Int) (a4 : Int) (a5 : Int) (a6 : Int) (a7 : Int) (a8 : Int) : Bool := (runL (bits_Div64.L24.step M) (4) (a0, a1, a2, a3, a4, a5, a6, a7, a8)).isSome
def bits_Div64.L24.vals (s : Int × Int × Int × Int × Int × Int × Int × Int × Int) : List (Nat × Value) := [(2, .int .u64 s.1), (8, .int .u64 s.2.1), (9, .int .u64 s.2.2.1), (10, .int .u64 s.2.2.2.1), (14, .int .u64 s.2.2.2.2.1), (15, .int .u64 s.2.2.2.2.2.1), (16, .int .u64 s.2.2.2.2.2.2.1), (17, .int .u64 s.2.2.2.2.2.2.2.1), (18, .int .u64 s.2.2.2.2.2.2.2.2)]
def bits_Div64.L24.asgL : List Nat := [102, 103, 104, 105, 106, 107, 108, 109, 110, 111, 112, 113, 114, 115, 18, 116, 117, 118, 16, 119, 120]
noncomputable def bits_Div64.L24.body : Code := (nth (loopsOf (Try.f103.body.getD .skip)) 1).getD .skip
def bits_Div64.k (M : Prims) (c113 : Int → Int) (c113ok : Int → Bool) (l17 : Int → Int → Int → Int → Int → Int → Int → Int → Int → Int × Int × Int × Int × Int × Int × Int × Int × Int) (l17ok : Int → Int → Int → Int → Int → Int → Int → Int → Int → Bool) (l24 : Int → Int → Int → Int → Int → Int → Int → Int → Int → Int × Int × Int × Int × Int × Int × Int × Int × Int) (l24ok : Int → Int → Int → Int → Int → Int → Int → Int → Int → Bool) (hi : Int) (lo : Int) (y : Int) (k : Int × Int → R) : R :=
  cond ((y : Int) == 0)
    (none)
    (cond (decide (y ≤ hi))
       (none)
       (cond ((hi : Int) == 0)
          (cond (!decide (y = 0))
             (cond (!decide (y = 0))
                (k ((IntKind.u64.wrap (Int.tdiv lo y)), (Int.tmod lo y)))
                (none))
             (none))
          (cond (c113ok y)
             (let x7 := IntKind.u64.wrap (c113 y)
              let x8 := shlV .u64 y x7
              cond (decide (0 ≤ x7))
                (let x9 := shrV .u64 x8 32
                 let x10 := M.and .u64 x8 4294967295
                 cond (decide (0 ≤ x7))
                   (let x12 := IntKind.u64.wrap (64 - x7)
                    cond (decide (0 ≤ x12))
                      (let x14 := M.or .u64 (shlV .u64 hi x7) (shrV .u64 lo x12)
                       let x15 := shlV .u64 lo x7
                       cond (decide (0 ≤ x7))
                         (let x16 := shrV .u64 x15 32
                          let x17 := M.and .u64 x15 4294967295
                          let x18 := IntKind.u64.wrap (Int.tdiv x14 x9)
                          cond (!decide (x9 = 0))
                            (let x20 := IntKind.u64.wrap (x14 - (IntKind.u64.wrap (x18 * x9)))
                             let x32 := l17 x8 x7 x9 x10 x14 x16 x17 x18 x20
                             cond (l17ok x8 x7 x9 x10 x14 x16 x17 x18 x20)
                               (let x36 := IntKind.u64.wrap ((IntKind.u64.wrap ((IntKind.u64.wrap (x32.2.2.2.2.1 * 4294967296)) + x32.2.2.2.2.2.1)) - (IntKind.u64.wrap (x32.2.2.2.2.2.2.2.1 * x32.1)))
                                let x37 := IntKind.u64.wrap (Int.tdiv x36 x32.2.2.1)
                                cond (!decide (x32.2.2.1 = 0))
                                  (let x39 := IntKind.u64.wrap (x36 - (IntKind.u64.wrap (x37 * x32.2.2.1)))
                                   let x51 := l24 x32.1 x32.2.1 x32.2.2.1 x32.2.2.2.1 x32.2.2.2.2.2.2.1 x32.2.2.2.2.2.2.2.1 x39 x36 x37
                                   cond (l24ok x32.1 x32.2.1 x32.2.2.1 x32.2.2.2.1 x32.2.2.2.2.2.2.1 x32.2.2.2.2.2.2.2.1 x39 x36 x37)
                                     (cond (decide (0 ≤ x51.2.1))
                                        (k ((IntKind.u64.wrap ((IntKind.u64.wrap (x51.2.2.2.2.2.1 * 4294967296)) + x51.2.2.2.2.2.2.2.2)), (shrV .u64 (IntKind.u64.wrap ((IntKind.u64.wrap ((IntKind.u64.wrap (x51.2.2.2.2.2.2.2.1 * 4294967296)) + x51.2.2.2.2.1)) - (IntKind.u64.wrap (x51.2.2.2.2.2.2.2.2 * x51.1)))) x51.2.1)))
                                        (none))
                                     (none))
                                  (none))
                               (none))
                            (none))
                         (none))
                      (none))
                   (none))
                (none))
             (none))))
def bits_Div64 (M : Prims) (hi : Int) (lo : Int) (y : Int) : Int × Int :=
  cond ((hi : Int) == 0)
    (((IntKind.u64.wrap (Int.tdiv lo y)), (Int.tmod lo y)))
    (let x7 := IntKind.u64.wrap (bits_LeadingZeros64 M y)
     let x8 := shlV .u64 y x7
     let x9 := shrV .u64 x8 32
     let x14 := M.or .u64 (shlV .u64 hi x7) (shrV .u64 lo (IntKind.u64.wrap (64 - x7)))
     let x15 := shlV .u64 lo x7
     let x18 := IntKind.u64.wrap (Int.tdiv x14 x9)
     let x32 := bits_Div64.L17 M x8 x7 x9 (M.and .u64 x8 4294967295) x14 (shrV .u64 x15 32) (M.and .u64 x15 4294967295) x18 (IntKind.u64.wrap (x14 - (IntKind.u64.wrap (x18 * x9))))
     let x36 := IntKind.u64.wrap ((IntKind.u64.wrap ((IntKind.u64.wrap (x32.2.2.2.2.1 * 4294967296)) + x32.2.2.2.2.2.1)) - (IntKind.u64.wrap (x32.2.2.2.2.2.2.2.1 * x32.1)))
     let x37 := IntKind.u64.wrap (Int.tdiv x36 x32.2.2.1)
     let x51 := bits_Div64.L24 M x32.1 x32.2.1 x32.2.2.1 x32.2.2.2.1 x32.2.2.2.2.2.2.1 x32.2.2.2.2.2.2.2.1 (IntKind.u64.wrap (x36 - (IntKind.u64.wrap (x37 * x32.2.2.1)))) x36 x37
     ((IntKind.u64.wrap ((IntKind.u64.wrap (x51.2.2.2.2.2.1 * 4294967296)) + x51.2.2.2.2.2.2.2.2)), (shrV .u64 (IntKind.u64.wrap ((IntKind.u64.wrap ((IntKind.u64.wrap (x51.2.2.2.2.2.2.2.1 * 4294967296)) + x51.2.2.2.2.1)) - (IntKind.u64.wrap (x51.2.2.2.2.2.2.2.2 * x51.1)))) x51.2.1)))
def bits_Div64.ok (M : Prims) (hi : Int) (lo : Int) (y : Int) : Bool :=
  cond ((y : Int) == 0)
    (false)
    (cond (decide (y ≤ hi))
       (false)
       (cond ((hi : Int) == 0)
          (cond (!decide (y = 0))
             (cond (!decide (y = 0))
                (true)
                (false))
             (false))
          (cond (bits_LeadingZeros64.ok M y)
             (let x7 := IntKind.u64.wrap (bits_LeadingZeros64 M y)
              let x8 := shlV .u64 y x7
              cond (decide (0 ≤ x7))
                (let x9 := shrV .u64 x8 32
                 let x10 := M.and .u64 x8 4294967295
                 cond (decide (0 ≤ x7))
                   (let x12 := IntKind.u64.wrap (64 - x7)
                    cond (decide (0 ≤ x12))
                      (let x14 := M.or .u64 (shlV .u64 hi x7) (shrV .u64 lo x12)
                       let x15 := shlV .u64 lo x7
                       cond (decide (0 ≤ x7))
                         (let x16 := shrV .u64 x15 32
                          let x17 := M.and .u64 x15 4294967295
                          let x18 := IntKind.u64.wrap (Int.tdiv x14 x9)
                          cond (!decide (x9 = 0))
                            (let x20 := IntKind.u64.wrap (x14 - (IntKind.u64.wrap (x18 * x9)))
                             let x32 := bits_Div64.L17 M x8 x7 x9 x10 x14 x16 x17 x18 x20
                             cond (bits_Div64.L17.ok M x8 x7 x9 x10 x14 x16 x17 x18 x20)
                               (let x36 := IntKind.u64.wrap ((IntKind.u64.wrap ((IntKind.u64.wrap (x32.2.2.2.2.1 * 4294967296)) + x32.2.2.2.2.2.1)) - (IntKind.u64.wrap (x32.2.2.2.2.2.2.2.1 * x32.1)))
                                let x37 := IntKind.u64.wrap (Int.tdiv x36 x32.2.2.1)
                                cond (!decide (x32.2.2.1 = 0))
                                  (let x39 := IntKind.u64.wrap (x36 - (IntKind.u64.wrap (x37 * x32.2.2.1)))
                                   cond (bits_Div64.L24.ok M x32.1 x32.2.1 x32.2.2.1 x32.2.2.2.1 x32.2.2.2.2.2.2.1 x32.2.2.2.2.2.2.2.1 x39 x36 x37)
                                     (cond (decide (0 ≤ (bits_Div64.L24 M x32.1 x32.2.1 x32.2.2.1 x32.2.2.2.1 x32.2.2.2.2.2.2.1 x32.2.2.2.2.2.2.2.1 x39 x36 x37).2.1))
                                        (true)
                                        (false))
                                     (false))
                                  (false))
                               (false))
                            (false))
                         (false))
                      (false))
                   (false))
                (false))
             (false))))
def bits_Div64.fns (c113 : Int → Int) (c113ok : Int → Bool) : FuncId → List Value → Option (Bool × Value) := ifId 113 (bits_LeadingZeros64.ph c113 c113ok) <| noFns
def bits_Div64.L17.at (l : Int → Int → Int → Int → Int → Int → Int → Int → Int → Int × Int × Int × Int × Int × Int × Int × Int × Int) (lok : Int → Int → Int → Int → Int → Int → Int → Int → Int → Bool) (e : Env) (h : Hp) : Option (Bool × Nat × Env × Hp) :=
  match keysLt 135 e, getE e 2, getE e 8, getE e 9, getE e 10, getE e 11, getE e 13, getE e 14, getE e 15, getE e 16 with
  | true, .int .u64 a0, .int .u64 a1, .int .u64 a2, .int .u64 a3, .int .u64 a4, .int .u64 a5, .int .u64 a6, .int .u64 a7, .int .u64 a8 => some (lok a0 a1 a2 a3 a4 a5 a6 a7 a8, 0, mkE (bits_Div64.L17.vals (l a0 a1 a2 a3 a4 a5 a6 a7 a8)) bits_Div64.L17.asgL (getE e) (upTo 135 0), h)
  | _, _, _, _, _, _, _, _, _, _ => none
def bits_Div64.L24.at (l : Int → Int → Int → Int → Int → Int → Int → Int → Int → Int × Int × Int × Int × Int × Int × Int × Int × Int) (lok : Int → Int → Int → Int → Int → Int → Int → Int → Int → Bool) (e : Env) (h : Hp) : Option (Bool × Nat × Env × Hp) :=
  match keysLt 135 e, getE e 2, getE e 8, getE e 9, getE e 10, getE e 14, getE e 15, getE e 16, getE e 17, getE e 18 with
  | true, .int .u64 a0, .int .u64 a1, .int .u64 a2, .int .u64 a3, .int .u64 a4, .int .u64 a5, .int .u64 a6, .int .u64 a7, .int .u64 a8 => some (lok a0 a1 a2 a3 a4 a5 a6 a7 a8, 2, mkE (bits_Div64.L24.vals (l a0 a1 a2 a3 a4 a5 a6 a7 a8)) bits_Div64.L24.asgL (getE e) (upTo 135 0), h)
  | _, _, _, _, _, _, _, _, _, _ => none
def bits_Div64.lps (l17 : Int → Int → Int → Int → Int → Int → Int → Int → Int → Int × Int × Int × Int × Int × Int × Int × Int × Int) (l17ok : Int → Int → Int → Int → Int → Int → Int → Int → Int → Bool) (l24 : Int → Int → Int → Int → Int → Int → Int → Int → Int → Int × Int × Int × Int × Int × Int × Int × Int × Int) (l24ok : Int → Int → Int → Int → Int → Int → Int → Int → Int → Bool) : Loops := fun key e h => match key with
  | 17 => bits_Div64.L17.at l17 l17ok e h
  | 24 => bits_Div64.L24.at l24 l24ok e h
  | _ => none
theorem bits_Div64.L17.ev (M : Prims) (c113 : Int → Int) (c113ok : Int → Bool) (l17 : Int → Int → Int → Int → Int → Int → Int → Int → Int → Int × Int × Int × Int × Int × Int × Int × Int × Int) (l17ok : Int → Int → Int → Int → Int → Int → Int → Int → Int → Bool) (l24 : Int → Int → Int → Int → Int → Int → Int → Int → Int → Int × Int × Int × Int × Int × Int × Int × Int × Int) (l24ok : Int → Int → Int → Int → Int → Int → Int → Int → Int → Bool) (b : Nat → Value) (h : Hp) (s : Int × Int × Int × Int × Int × Int × Int × Int × Int) : ev tab M (pureFns (bits_Div64.fns c113 c113ok)) (bits_Div64.lps l17 l17ok l24 l24ok) true 135 60 bits_Div64.L17.body (mkE (bits_Div64.L17.vals s) bits_Div64.L17.asgL b (upTo 135 0)) h (fun o e h => some (o, getEs e [2, 8, 9, 10, 11, 13, 14, 15, 16], h)) = bits_Div64.L17.k M c113 c113ok s (fun t => some (.norm, sndL (bits_Div64.L17.vals t), h)) (fun t => some (.exit 0, sndL (bits_Div64.L17.vals t), h)) := by kernel_rfl
theorem bits_Div64.L17.nat {ρ : Type} (M : Prims) (s s2 : Int × Int × Int × Int × Int × Int × Int × Int × Int) (g : Bool) (kn kx : (Int × Int × Int × Int × Int × Int × Int × Int × Int) → Option ρ) : bits_Div64.L17.step M s = some (g, s2) → bits_Div64.L17.k M (bits_LeadingZeros64 M) (bits_LeadingZeros64.ok M) s kn kx = cond g (kn s2) (kx s2) := by
  unfold bits_Div64.L17.step bits_Div64.L17.k
  exact nC (nC nX nN) (nC (nC nX nN) nX)
theorem bits_Div64.L24.ev (M : Prims) (c113 : Int → Int) (c113ok : Int → Bool) (l17 : Int → Int → Int → Int → Int → Int → Int → Int → Int → Int × Int × Int × Int × Int × Int × Int × Int × Int) (l17ok : Int → Int → Int → Int → Int → Int → Int → Int → Int → Bool) (l24 : Int → Int → Int → Int → Int → Int → Int → Int → Int → Int × Int × Int × Int × Int × Int × Int × Int × Int) (l24ok : Int → Int → Int → Int → Int → Int → Int → Int → Int → Bool) (b : Nat → Value) (h : Hp) (s : Int × Int × Int × Int × Int × Int × Int × Int × Int) : ev tab M (pureFns (bits_Div64.fns c113 c113ok)) (bits_Div64.lps l17 l17ok l24 l24ok) true 135 60 bits_Div64.L24.body (mkE (bits_Div64.L24.vals s) bits_Div64.L24.asgL b (upTo 135 0)) h (fun o e h => some (o, getEs e [2, 8, 9, 10, 14, 15, 16, 17, 18], h)) = bits_Div64.L24.k M c113 c113ok s (fun t => some (.norm, sndL (bits_Div64.L24.vals t), h)) (fun t => some (.exit 2, sndL (bits_Div64.L24.vals t), h)) := by kernel_rfl
theorem bits_Div64.L24.nat {ρ : Type} (M : Prims) (s s2 : Int × Int × Int × Int × Int × Int × Int × Int × Int) (g : Bool) (kn kx : (Int × Int × Int × Int × Int × Int × Int × Int × Int) → Option ρ) : bits_Div64.L24.step M s = some (g, s2) → bits_Div64.L24.k M (bits_LeadingZeros64 M) (bits_LeadingZeros64.ok M) s kn kx = cond g (kn s2) (kx s2) := by
  unfold bits_Div64.L24.step bits_Div64.L24.k
  exact nC (nC nX nN) (nC (nC nX nN) nX)
theorem bits_Div64.fnsOK : PureFns Try.prog (bits_Div64.fns (bits_LeadingZeros64 M0) (bits_LeadingZeros64.ok M0)) := ifIdOK bits_LeadingZeros64.phOK <| noFnsOK
theorem bits_Div64.L17.isOK : LoopOK Try.prog 135 (bits_Div64.lps (bits_Div64.L17 M0) (bits_Div64.L17.ok M0) (bits_Div64.L24 M0) (bits_Div64.L24.ok M0)) bits_Div64.L17.body := by
  intro e h x e2 h2 hL0
  rw [show keyOf bits_Div64.L17.body = 17 from by kernel_rfl] at hL0
  have hL : bits_Div64.L17.at (bits_Div64.L17 M0) (bits_Div64.L17.ok M0) e h = some (true, x, e2, h2) := hL0
  unfold bits_Div64.L17.at at hL
  split at hL
  · rename_i a0 a1 a2 a3 a4 a5 a6 a7 a8 hk e0 e1 e2 e3 e4 e5 e6 e7 e8
    simp only [Option.some.injEq, Prod.mk.injEq] at hL
    obtain ⟨hok, rfl, rfl, rfl⟩ := hL
    obtain ⟨s2, hs⟩ := Option.isSome_iff_exists.1 hok
    unfold bits_Div64.L17
    rw [hs]
    refine loop_rounds (P := Try.prog) (T := tab) (Φ := pureFns (bits_Div64.fns (bits_LeadingZeros64 M0) (bits_LeadingZeros64.ok M0))) (pc := true) (Λ := (bits_Div64.lps (bits_Div64.L17 M0) (bits_Div64.L17.ok M0) (bits_Div64.L24 M0) (bits_Div64.L24.ok M0))) (setting_pure (P := Try.prog) mixed tabOK bits_Div64.fnsOK) (c := bits_Div64.L17.body) (by rw [show loopsOf bits_Div64.L17.body = [] from by kernel_rfl]; exact trivial) (by rw [show loopsOf bits_Div64.L17.body = [] from by kernel_rfl]; exact trivial) (bits_Div64.L17.step M0) bits_Div64.L17.vals [2, 8, 9, 10, 11, 13, 14, 15, 16] (fun _ => rfl) 0 60 (asg := bits_Div64.L17.asgL) (by kernel_rfl) ?_ (by kernel_rfl) _ _ _ e h hs hk ?_
    · intro b h s s2 g hst
      refine (bits_Div64.L17.ev M0 (bits_LeadingZeros64 M0) (bits_LeadingZeros64.ok M0) (bits_Div64.L17 M0) (bits_Div64.L17.ok M0) (bits_Div64.L24 M0) (bits_Div64.L24.ok M0) b h s).trans ((bits_Div64.L17.nat M0 s s2 g _ _ hst).trans ?_)
      cases g <;> rfl
    · intro p hp
      simp only [bits_Div64.L17.vals, List.mem_cons, List.not_mem_nil, or_false] at hp
      rcases hp with rfl | rfl | rfl | rfl | rfl | rfl | rfl | rfl | rfl <;> assumption
  · cases hL
theorem bits_Div64.L24.isOK : LoopOK Try.prog 135 (bits_Div64.lps (bits_Div64.L17 M0) (bits_Div64.L17.ok M0) (bits_Div64.L24 M0) (bits_Div64.L24.ok M0)) bits_Div64.L24.body := by
  intro e h x e2 h2 hL0
  rw [show keyOf bits_Div64.L24.body = 24 from by kernel_rfl] at hL0
  have hL : bits_Div64.L24.at (bits_Div64.L24 M0) (bits_Div64.L24.ok M0) e h = some (true, x, e2, h2) := hL0
  unfold bits_Div64.L24.at at hL
  split at hL
  · rename_i a0 a1 a2 a3 a4 a5 a6 a7 a8 hk e0 e1 e2 e3 e4 e5 e6 e7 e8
    simp only [Option.some.injEq, Prod.mk.injEq] at hL
    obtain ⟨hok, rfl, rfl, rfl⟩ := hL
    obtain ⟨s2, hs⟩ := Option.isSome_iff_exists.1 hok
    unfold bits_Div64.L24
    rw [hs]
    refine loop_rounds (P := Try.prog) (T := tab) (Φ := pureFns (bits_Div64.fns (bits_LeadingZeros64 M0) (bits_LeadingZeros64.ok M0))) (pc := true) (Λ := (bits_Div64.lps (bits_Div64.L17 M0) (bits_Div64.L17.ok M0) (bits_Div64.L24 M0) (bits_Div64.L24.ok M0))) (setting_pure (P := Try.prog) mixed tabOK bits_Div64.fnsOK) (c := bits_Div64.L24.body) (by rw [show loopsOf bits_Div64.L24.body = [] from by kernel_rfl]; exact trivial) (by rw [show loopsOf bits_Div64.L24.body = [] from by kernel_rfl]; exact trivial) (bits_Div64.L24.step M0) bits_Div64.L24.vals [2, 8, 9, 10, 14, 15, 16, 17, 18] (fun _ => rfl) 2 60 (asg := bits_Div64.L24.asgL) (by kernel_rfl) ?_ (by kernel_rfl) _ _ _ e h hs hk ?_
    · intro b h s s2 g hst
      refine (bits_Div64.L24.ev M0 (bits_LeadingZeros64 M0) (bits_LeadingZeros64.ok M0) (bits_Div64.L17 M0) (bits_Div64.L17.ok M0) (bits_Div64.L24 M0) (bits_Div64.L24.ok M0) b h s).trans ((bits_Div64.L24.nat M0 s s2 g _ _ hst).trans ?_)
      cases g <;> rfl
    · intro p hp
      simp only [bits_Div64.L24.vals, List.mem_cons, List.not_mem_nil, or_false] at hp
      rcases hp with rfl | rfl | rfl | rfl | rfl | rfl | rfl | rfl | rfl <;> assumption
  · cases hL
theorem bits_Div64.lpsOK : LoopsOK Try.prog 135 (bits_Div64.lps (bits_Div64.L17 M0) (bits_Div64.L17.ok M0) (bits_Div64.L24 M0) (bits_Div64.L24.ok M0)) (loopsOf (Try.f103.body.getD .skip)) := by
  rw [show loopsOf (Try.f103.body.getD .skip) = [bits_Div64.L17.body, bits_Div64.L24.body] from by kernel_rfl]
  exact ⟨bits_Div64.L17.isOK, bits_Div64.L24.isOK, trivial⟩
theorem bits_Div64.ev (M : Prims) (c113 : Int → Int) (c113ok : Int → Bool) (l17 : Int → Int → Int → Int → Int → Int → Int → Int → Int → Int × Int × Int × Int × Int × Int × Int × Int × Int) (l17ok : Int → Int → Int → Int → Int → Int → Int → Int → Int → Bool) (l24 : Int → Int → Int → Int → Int → Int → Int → Int → Int → Int × Int × Int × Int × Int × Int × Int × Int × Int) (l24ok : Int → Int → Int → Int → Int → Int → Int → Int → Int → Bool) (hi : Int) (lo : Int) (y : Int) : evP tab M (bits_Div64.fns c113 c113ok) (bits_Div64.lps l17 l17ok l24 l24ok) 300 Try.f103 [(.int .u64 hi), (.int .u64 lo), (.int .u64 y)] = bits_Div64.k M c113 c113ok l17 l17ok l24 l24ok hi lo y (fun r => some (.tuple ⟨[(.int .u64 r.1), (.int .u64 r.2)]⟩, [])) := by kernel_rfl
theorem bits_Div64.k_eq (M : Prims) (hi : Int) (lo : Int) (y : Int) (k : Int × Int → R) : bits_Div64.ok M hi lo y = true → bits_Div64.k M (bits_LeadingZeros64 M) (bits_LeadingZeros64.ok M) (bits_Div64.L17 M) (bits_Div64.L17.ok M) (bits_Div64.L24 M) (bits_Div64.L24.ok M) hi lo y k = k (bits_Div64 M hi lo y) := by
  unfold bits_Div64.ok bits_Div64.k bits_Div64
  exact kR (kR (kC (kL (kL (fun _ => rfl))) (kL (kL (kL (kL (kL (kL (kL (kL (kL (kL (fun _ => rfl)))))))))))))
theorem bits_Div64.call (hi : Int) (lo : Int) (y : Int) (h : bits_Div64.ok M0 hi lo y = true) : PureOK Try.prog 103 [(.int .u64 hi), (.int .u64 lo), (.int .u64 y)] (.tuple ⟨[(.int .u64 ((bits_Div64 M0 hi lo y).1)), (.int .u64 ((bits_Div64 M0 hi lo y).2))]⟩) :=
  evP_sound (P := Try.prog) mixed tabOK bits_Div64.fnsOK Try.func103 rfl (Λ := (bits_Div64.lps (bits_Div64.L17 M0) (bits_Div64.L17.ok M0) (bits_Div64.L24 M0) (bits_Div64.L24.ok M0))) (c := Try.f103.body.getD .skip) rfl bits_Div64.lpsOK rfl (Nat.zero_le 1) rfl rfl ((bits_Div64.ev M0 (bits_LeadingZeros64 M0) (bits_LeadingZeros64.ok M0) (bits_Div64.L17 M0) (bits_Div64.L17.ok M0) (bits_Div64.L24 M0) (bits_Div64.L24.ok M0) hi lo y).trans (bits_Div64.k_eq M0 hi lo y _ h))
def bits_Div64.ph (c103 : Int → Int → Int → Int × Int) (c103ok : Int → Int → Int → Bool) : Ph := fun args => match args with
  | [.int .u64 a0_, .int .u64 a1_, .int .u64 a2_] => some (c103ok a0_ a1_ a2_, .tuple ⟨[(.int .u64 ((c103 a0_ a1_ a2_).1)), (.int .u64 ((c103 a0_ a1_ a2_).2))]⟩)
  | _ => none
theorem bits_Div64.phOK : PhOK Try.prog 103 (bits_Div64.ph (bits_Div64 M0) (bits_Div64.ok M0)) := ⟨by
  intro args v h
  unfold bits_Div64.ph at h
  split at h
  · rename_i a0_ a1_ a2_
    simp only [Option.some.injEq, Prod.mk.injEq] at h
    obtain ⟨hok, rfl⟩ := h
    exact ⟨rfl, rfl, bits_Div64.call a0_ a1_ a2_ hok⟩
  · cases h⟩
def round_Div.k (M : Prims) (c100 : Nat → LExact) (c100ok : Nat → Bool) (c101 : LExact → Int → LExact) (c101ok : LExact → Int → Bool) (c102 : LExact → Int) (c102ok : LExact → Bool) (c103 : Int → Int → Int → Int × Int) (c103ok : Int → Int → Int → Bool) (c104 : LExact → Bool → Nat) (c104ok : LExact → Bool → Bool) (c99 : Nat → Nat → Bool) (c99ok : Nat → Nat → Bool) (a : Nat) (b : Nat) (down : Bool) (k : Nat × Int → R) : R :=
  cond (c99ok a b)
    (cond (!(c99 a b))
       (k (0, 10))
       (cond (M.eq b 0)
          (k (0, 11))
          (let x4 := c100 a
           cond (c100ok a)
             (let x5 := c100 b
              cond (c100ok b)
                (cond (c102ok x4)
                   (let x7 := IntKind.i64.wrap (117 - (c102 x4))
                    let x8 := c101 x4 x7
                    cond (c101ok x4 x7)
                      (cond (c102ok x5)
                         (let x10 := IntKind.i64.wrap (53 - (c102 x5))
                          let x11 := c101 x5 x10
                          cond (c101ok x5 x10)
                            (let x12 := !(x8.neg == x11.neg)
                             let x13 := IntKind.i64.wrap (x8.e - x11.e)
                             let x14 := c103 0 x8.hi x11.lo
                             cond (c103ok 0 x8.hi x11.lo)
                               (let x15 := c103 x14.2 x8.lo x11.lo
                                cond (c103ok x14.2 x8.lo x11.lo)
                                  (let x16 := (x15.2 : Int) != 0
                                   cond (c104ok (⟨x12, x14.1, x15.1, x13, x16⟩ : LExact) down)
                                     (k ((c104 (⟨x12, x14.1, x15.1, x13, x16⟩ : LExact) down), 0))
                                     (none))
                                  (none))
                               (none))
                            (none))
                         (none))
                      (none))
                   (none))
                (none))
             (none))))
    (none)
def round_Div (M : Prims) (a : Nat) (b : Nat) (down : Bool) : Nat × Int :=
  cond (!(round_two M a b))
    ((0, 10))
    (cond (M.eq b 0)
       ((0, 11))
       (let x4 := round_split M a
        let x5 := round_split M b
        let x8 := round_exact_left M x4 (IntKind.i64.wrap (117 - (round_exact_length M x4)))
        let x11 := round_exact_left M x5 (IntKind.i64.wrap (53 - (round_exact_length M x5)))
        let x14 := bits_Div64 M 0 x8.hi x11.lo
        let x15 := bits_Div64 M x14.2 x8.lo x11.lo
        ((round_exact_to M (⟨(!(x8.neg == x11.neg)), x14.1, x15.1, (IntKind.i64.wrap (x8.e - x11.e)), ((x15.2 : Int) != 0)⟩ : LExact) down), 0)))
def round_Div.ok (M : Prims) (a : Nat) (b : Nat) (down : Bool) : Bool :=
  cond (round_two.ok M a b)
    (cond (!(round_two M a b))
       (true)
       (cond (M.eq b 0)
          (true)
          (let x4 := round_split M a
           cond (round_split.ok M a)
             (let x5 := round_split M b
              cond (round_split.ok M b)
                (cond (round_exact_length.ok M x4)
                   (let x7 := IntKind.i64.wrap (117 - (round_exact_length M x4))
                    let x8 := round_exact_left M x4 x7
                    cond (round_exact_left.ok M x4 x7)
                      (cond (round_exact_length.ok M x5)
                         (let x10 := IntKind.i64.wrap (53 - (round_exact_length M x5))
                          let x11 := round_exact_left M x5 x10
                          cond (round_exact_left.ok M x5 x10)
                            (let x14 := bits_Div64 M 0 x8.hi x11.lo
                             cond (bits_Div64.ok M 0 x8.hi x11.lo)
                               (let x15 := bits_Div64 M x14.2 x8.lo x11.lo
                                cond (bits_Div64.ok M x14.2 x8.lo x11.lo)
                                  (cond (round_exact_to.ok M (⟨(!(x8.neg == x11.neg)), x14.1, x15.1, (IntKind.i64.wrap (x8.e - x11.e)), ((x15.2 : Int) != 0)⟩ : LExact) down)
                                     (true)
                                     (false))
                                  (false))
                               (false))
                            (false))
                         (false))
                      (false))
                   (false))
                (false))
             (false))))
    (false)
def round_Div.fns (c100 : Nat → LExact) (c100ok : Nat → Bool) (c101 : LExact → Int → LExact) (c101ok : LExact → Int → Bool) (c102 : LExact → Int) (c102ok : LExact → Bool) (c103 : Int → Int → Int → Int × Int) (c103ok : Int → Int → Int → Bool) (c104 : LExact → Bool → Nat) (c104ok : LExact → Bool → Bool) (c99 : Nat → Nat → Bool) (c99ok : Nat → Nat → Bool) : FuncId → List Value → Option (Bool × Value) := ifId 100 (round_split.ph c100 c100ok) <| ifId 101 (round_exact_left.ph c101 c101ok) <| ifId 102 (round_exact_length.ph c102 c102ok) <| ifId 103 (bits_Div64.ph c103 c103ok) <| ifId 104 (round_exact_to.ph c104 c104ok) <| ifId 99 (round_two.ph c99 c99ok) <| noFns
theorem round_Div.fnsOK : PureFns Try.prog (round_Div.fns (round_split M0) (round_split.ok M0) (round_exact_left M0) (round_exact_left.ok M0) (round_exact_length M0) (round_exact_length.ok M0) (bits_Div64 M0) (bits_Div64.ok M0) (round_exact_to M0) (round_exact_to.ok M0) (round_two M0) (round_two.ok M0)) := ifIdOK round_split.phOK <| ifIdOK round_exact_left.phOK <| ifIdOK round_exact_length.phOK <| ifIdOK bits_Div64.phOK <| ifIdOK round_exact_to.phOK <| ifIdOK round_two.phOK <| noFnsOK
theorem round_Div.ev (M : Prims) (c100 : Nat → LExact) (c100ok : Nat → Bool) (c101 : LExact → Int → LExact) (c101ok : LExact → Int → Bool) (c102 : LExact → Int) (c102ok : LExact → Bool) (c103 : Int → Int → Int → Int × Int) (c103ok : Int → Int → Int → Bool) (c104 : LExact → Bool → Nat) (c104ok : LExact → Bool → Bool) (c99 : Nat → Nat → Bool) (c99ok : Nat → Nat → Bool)  (a : Nat) (b : Nat) (down : Bool) : evP tab M (round_Div.fns c100 c100ok c101 c101ok c102 c102ok c103 c103ok c104 c104ok c99 c99ok) noLoops 300 Try.f78 [(.float .f64 a), (.float .f64 b), (.bool down)] = round_Div.k M c100 c100ok c101 c101ok c102 c102ok c103 c103ok c104 c104ok c99 c99ok  a b down (fun r => some (.tuple ⟨[(.float .f64 r.1), (.int .i64 r.2)]⟩, [])) := by kernel_rfl
theorem round_Div.k_eq (M : Prims) (a : Nat) (b : Nat) (down : Bool) (k : Nat × Int → R) : round_Div.ok M a b down = true → round_Div.k M (round_split M) (round_split.ok M) (round_exact_left M) (round_exact_left.ok M) (round_exact_length M) (round_exact_length.ok M) (bits_Div64 M) (bits_Div64.ok M) (round_exact_to M) (round_exact_to.ok M) (round_two M) (round_two.ok M) a b down k = k (round_Div M a b down) := by
  unfold round_Div.ok round_Div.k round_Div
  exact kL (kC (fun _ => rfl) (kC (fun _ => rfl) (kL (kL (kL (kL (kL (kL (kL (kL (kL (fun _ => rfl))))))))))))
theorem round_Div.call (a : Nat) (b : Nat) (down : Bool) (h : round_Div.ok M0 a b down = true) : PureOK Try.prog 78 [(.float .f64 a), (.float .f64 b), (.bool down)] (.tuple ⟨[(.float .f64 ((round_Div M0 a b down).1)), (.int .i64 ((round_Div M0 a b down).2))]⟩) :=
  evP_sound (P := Try.prog) mixed tabOK round_Div.fnsOK Try.func78 rfl (Λ := noLoops) (c := Try.f78.body.getD .skip) rfl (noLoopsOK _) rfl (Nat.zero_le 1) rfl rfl ((round_Div.ev M0 (round_split M0) (round_split.ok M0) (round_exact_left M0) (round_exact_left.ok M0) (round_exact_length M0) (round_exact_length.ok M0) (bits_Div64 M0) (bits_Div64.ok M0) (round_exact_to M0) (round_exact_to.ok M0) (round_two M0) (round_two.ok M0) a b down).trans (round_Div.k_eq M0 a b down _ h))
def round_Div.ph (c78 : Nat → Nat → Bool → Nat × Int) (c78ok : Nat → Nat → Bool → Bool) : Ph := fun args => match args with
  | [.float .f64 a0_, .float .f64 a1_, .bool a2_] => some (c78ok a0_ a1_ a2_, .tuple ⟨[(.float .f64 ((c78 a0_ a1_ a2_).1)), (.int .i64 ((c78 a0_ a1_ a2_).2))]⟩)
  | _ => none
theorem round_Div.phOK : PhOK Try.prog 78 (round_Div.ph (round_Div M0) (round_Div.ok M0)) := ⟨by
  intro args v h
  unfold round_Div.ph at h
  split at h
  · rename_i a0_ a1_ a2_
    simp only [Option.some.injEq, Prod.mk.injEq] at h
    obtain ⟨hok, rfl⟩ := h
    exact ⟨rfl, rfl, round_Div.call a0_ a1_ a2_ hok⟩
  · cases h⟩
def span_Div.k (M : Prims) (c75 : LSpan → Bool) (c75ok : LSpan → Bool) (c76 : LSpan) (c77 : Int → Nat) (c78 : Nat → Nat → Bool → Nat × Int) (c78ok : Nat → Nat → Bool → Bool) (a : LSpan) (b : LSpan) (k : LSpan → R) : R :=
  cond (M.le b.lo 0)
    (cond (M.ge b.hi 0)
       (k c76)
       (cond (c75ok a)
          (cond (c75 a)
             (k c76)
             (cond (c75ok b)
                (cond (c75 b)
                   (k c76)
                   (cond (c78ok a.lo b.lo true)
                      (cond (c78ok a.lo b.lo false)
                         (cond (c78ok a.lo b.hi true)
                            (cond (c78ok a.lo b.hi false)
                               (cond (c78ok a.hi b.lo true)
                                  (cond (c78ok a.hi b.lo false)
                                     (cond (c78ok a.hi b.hi true)
                                        (cond (c78ok a.hi b.hi false)
                                           (k (⟨(M.min (M.min (M.min (M.min (c77 1) (c78 a.lo b.lo true).1) (c78 a.lo b.hi true).1) (c78 a.hi b.lo true).1) (c78 a.hi b.hi true).1), (M.max (M.max (M.max (M.max (c77 (-1)) (c78 a.lo b.lo false).1) (c78 a.lo b.hi false).1) (c78 a.hi b.lo false).1) (c78 a.hi b.hi false).1)⟩ : LSpan))
                                           (none))
                                        (none))
                                     (none))
                                  (none))
                               (none))
                            (none))
                         (none))
                      (none)))
                (none)))
          (none)))
    (cond (c75ok a)
       (cond (c75 a)
          (k c76)
          (cond (c75ok b)
             (cond (c75 b)
                (k c76)
                (cond (c78ok a.lo b.lo true)
                   (cond (c78ok a.lo b.lo false)
                      (cond (c78ok a.lo b.hi true)
                         (cond (c78ok a.lo b.hi false)
                            (cond (c78ok a.hi b.lo true)
                               (cond (c78ok a.hi b.lo false)
                                  (cond (c78ok a.hi b.hi true)
                                     (cond (c78ok a.hi b.hi false)
                                        (k (⟨(M.min (M.min (M.min (M.min (c77 1) (c78 a.lo b.lo true).1) (c78 a.lo b.hi true).1) (c78 a.hi b.lo true).1) (c78 a.hi b.hi true).1), (M.max (M.max (M.max (M.max (c77 (-1)) (c78 a.lo b.lo false).1) (c78 a.lo b.hi false).1) (c78 a.hi b.lo false).1) (c78 a.hi b.hi false).1)⟩ : LSpan))
                                        (none))
                                     (none))
                                  (none))
                               (none))
                            (none))
                         (none))
                      (none))
                   (none)))
             (none)))
       (none))
def span_Div (M : Prims) (a : LSpan) (b : LSpan) : LSpan :=
  cond (M.le b.lo 0)
    (cond (M.ge b.hi 0)
       ((span_All M))
       (cond (span_Wide M a)
          ((span_All M))
          (cond (span_Wide M b)
             ((span_All M))
             ((⟨(M.min (M.min (M.min (M.min (math_Inf M 1) (round_Div M a.lo b.lo true).1) (round_Div M a.lo b.hi true).1) (round_Div M a.hi b.lo true).1) (round_Div M a.hi b.hi true).1), (M.max (M.max (M.max (M.max (math_Inf M (-1)) (round_Div M a.lo b.lo false).1) (round_Div M a.lo b.hi false).1) (round_Div M a.hi b.lo false).1) (round_Div M a.hi b.hi false).1)⟩ : LSpan)))))
    (cond (span_Wide M a)
       ((span_All M))
       (cond (span_Wide M b)
          ((span_All M))
          ((⟨(M.min (M.min (M.min (M.min (math_Inf M 1) (round_Div M a.lo b.lo true).1) (round_Div M a.lo b.hi true).1) (round_Div M a.hi b.lo true).1) (round_Div M a.hi b.hi true).1), (M.max (M.max (M.max (M.max (math_Inf M (-1)) (round_Div M a.lo b.lo false).1) (round_Div M a.lo b.hi false).1) (round_Div M a.hi b.lo false).1) (round_Div M a.hi b.hi false).1)⟩ : LSpan))))
def span_Div.ok (M : Prims) (a : LSpan) (b : LSpan) : Bool :=
  cond (M.le b.lo 0)
    (cond (M.ge b.hi 0)
       (true)
       (cond (span_Wide.ok M a)
          (cond (span_Wide M a)
             (true)
             (cond (span_Wide.ok M b)
                (cond (span_Wide M b)
                   (true)
                   (cond (round_Div.ok M a.lo b.lo true)
                      (cond (round_Div.ok M a.lo b.lo false)
                         (cond (round_Div.ok M a.lo b.hi true)
                            (cond (round_Div.ok M a.lo b.hi false)
                               (cond (round_Div.ok M a.hi b.lo true)
                                  (cond (round_Div.ok M a.hi b.lo false)
                                     (cond (round_Div.ok M a.hi b.hi true)
                                        (cond (round_Div.ok M a.hi b.hi false)
                                           (true)
                                           (false))
                                        (false))
                                     (false))
                                  (false))
                               (false))
                            (false))
                         (false))
                      (false)))
                (false)))
          (false)))
    (cond (span_Wide.ok M a)
       (cond (span_Wide M a)
          (true)
          (cond (span_Wide.ok M b)
             (cond (span_Wide M b)
                (true)
                (cond (round_Div.ok M a.lo b.lo true)
                   (cond (round_Div.ok M a.lo b.lo false)
                      (cond (round_Div.ok M a.lo b.hi true)
                         (cond (round_Div.ok M a.lo b.hi false)
                            (cond (round_Div.ok M a.hi b.lo true)
                               (cond (round_Div.ok M a.hi b.lo false)
                                  (cond (round_Div.ok M a.hi b.hi true)
                                     (cond (round_Div.ok M a.hi b.hi false)
                                        (true)
                                        (false))
                                     (false))
                                  (false))
                               (false))
                            (false))
                         (false))
                      (false))
                   (false)))
             (false)))
       (false))
def span_Div.fns (c75 : LSpan → Bool) (c75ok : LSpan → Bool) (c76 : LSpan) (c77 : Int → Nat) (c78 : Nat → Nat → Bool → Nat × Int) (c78ok : Nat → Nat → Bool → Bool) : FuncId → List Value → Option (Bool × Value) := ifId 75 (span_Wide.ph c75 c75ok) <| ifId 76 (span_All.ph c76) <| ifId 77 (math_Inf.ph c77) <| ifId 78 (round_Div.ph c78 c78ok) <| noFns
theorem span_Div.fnsOK : PureFns Try.prog (span_Div.fns (span_Wide M0) (span_Wide.ok M0) (span_All M0) (math_Inf M0) (round_Div M0) (round_Div.ok M0)) := ifIdOK span_Wide.phOK <| ifIdOK span_All.phOK <| ifIdOK math_Inf.phOK <| ifIdOK round_Div.phOK <| noFnsOK
theorem span_Div.ev (M : Prims) (c75 : LSpan → Bool) (c75ok : LSpan → Bool) (c76 : LSpan) (c77 : Int → Nat) (c78 : Nat → Nat → Bool → Nat × Int) (c78ok : Nat → Nat → Bool → Bool)  (a : LSpan) (b : LSpan) : evP tab M (span_Div.fns c75 c75ok c76 c77 c78 c78ok) noLoops 300 Try.f39 [a.val, b.val] = span_Div.k M c75 c75ok c76 c77 c78 c78ok  a b (fun r => some (r.val, [])) := by kernel_rfl
theorem span_Div.k_eq (M : Prims) (a : LSpan) (b : LSpan) (k : LSpan → R) : span_Div.ok M a b = true → span_Div.k M (span_Wide M) (span_Wide.ok M) (span_All M) (math_Inf M) (round_Div M) (round_Div.ok M) a b k = k (span_Div M a b) := by
  unfold span_Div.ok span_Div.k span_Div
  exact kC (kC (fun _ => rfl) (kL (kC (fun _ => rfl) (kL (kC (fun _ => rfl) (kL (kL (kL (kL (kL (kL (kL (kL (fun _ => rfl)))))))))))))) (kL (kC (fun _ => rfl) (kL (kC (fun _ => rfl) (kL (kL (kL (kL (kL (kL (kL (kL (fun _ => rfl)))))))))))))
theorem span_Div.call (a : LSpan) (b : LSpan) (h : span_Div.ok M0 a b = true) : PureOK Try.prog 39 [a.val, b.val] ((span_Div M0 a b).val) :=
  evP_sound (P := Try.prog) mixed tabOK span_Div.fnsOK Try.func39 rfl (Λ := noLoops) (c := Try.f39.body.getD .skip) rfl (noLoopsOK _) rfl (Nat.zero_le 1) rfl rfl ((span_Div.ev M0 (span_Wide M0) (span_Wide.ok M0) (span_All M0) (math_Inf M0) (round_Div M0) (round_Div.ok M0) a b).trans (span_Div.k_eq M0 a b _ h))
def span_Div.ph (c39 : LSpan → LSpan → LSpan) (c39ok : LSpan → LSpan → Bool) : Ph := fun args => match args with
  | [.agg ⟨[.float .f64 a0_0, .float .f64 a0_1]⟩, .agg ⟨[.float .f64 a1_0, .float .f64 a1_1]⟩] => some (c39ok (⟨a0_0, a0_1⟩ : LSpan) (⟨a1_0, a1_1⟩ : LSpan), (c39 (⟨a0_0, a0_1⟩ : LSpan) (⟨a1_0, a1_1⟩ : LSpan)).val)
  | _ => none
theorem span_Div.phOK : PhOK Try.prog 39 (span_Div.ph (span_Div M0) (span_Div.ok M0)) := ⟨by
  intro args v h
  unfold span_Div.ph at h
  split at h
  · rename_i a0_0 a0_1 a1_0 a1_1
    simp only [Option.some.injEq, Prod.mk.injEq] at h
    obtain ⟨hok, rfl⟩ := h
    exact ⟨rfl, rfl, span_Div.call (⟨a0_0, a0_1⟩ : LSpan) (⟨a1_0, a1_1⟩ : LSpan) hok⟩
  · cases h⟩
def shape_all_s4.k (_ : Prims) (list0 : Int) (list1 : Int) (list2 : Int) (list3 : Int) (k : Int → R) : R :=
  cond ((list0 : Int) == 0)
    (k 0)
    (cond ((list0 : Int) != 1)
       (cond ((list1 : Int) == 0)
          (k 0)
          (cond ((list1 : Int) != 1)
             (cond ((list2 : Int) == 0)
                (k 0)
                (cond ((list2 : Int) != 1)
                   (cond ((list3 : Int) == 0)
                      (k 0)
                      (cond ((list3 : Int) != 1)
                         (k 2)
                         (k 2)))
                   (cond ((list3 : Int) == 0)
                      (k 0)
                      (cond ((list3 : Int) != 1)
                         (k 2)
                         (k 2)))))
             (cond ((list2 : Int) == 0)
                (k 0)
                (cond ((list2 : Int) != 1)
                   (cond ((list3 : Int) == 0)
                      (k 0)
                      (cond ((list3 : Int) != 1)
                         (k 2)
                         (k 2)))
                   (cond ((list3 : Int) == 0)
                      (k 0)
                      (cond ((list3 : Int) != 1)
                         (k 2)
                         (k 2)))))))
       (cond ((list1 : Int) == 0)
          (k 0)
          (cond ((list1 : Int) != 1)
             (cond ((list2 : Int) == 0)
                (k 0)
                (cond ((list2 : Int) != 1)
                   (cond ((list3 : Int) == 0)
                      (k 0)
                      (cond ((list3 : Int) != 1)
                         (k 2)
                         (k 2)))
                   (cond ((list3 : Int) == 0)
                      (k 0)
                      (cond ((list3 : Int) != 1)
                         (k 2)
                         (k 2)))))
             (cond ((list2 : Int) == 0)
                (k 0)
                (cond ((list2 : Int) != 1)
                   (cond ((list3 : Int) == 0)
                      (k 0)
                      (cond ((list3 : Int) != 1)
                         (k 2)
                         (k 2)))
                   (cond ((list3 : Int) == 0)
                      (k 0)
                      (cond ((list3 : Int) != 1)
                         (k 2)
                         (k 1))))))))
def shape_all_s4 (_ : Prims) (list0 : Int) (list1 : Int) (list2 : Int) (list3 : Int) : Int :=
  cond ((list0 : Int) == 0)
    (0)
    (cond ((list0 : Int) != 1)
       (cond ((list1 : Int) == 0)
          (0)
          (cond ((list1 : Int) != 1)
             (cond ((list2 : Int) == 0)
                (0)
                (cond ((list2 : Int) != 1)
                   (cond ((list3 : Int) == 0)
                      (0)
                      (cond ((list3 : Int) != 1)
                         (2)
                         (2)))
                   (cond ((list3 : Int) == 0)
                      (0)
                      (cond ((list3 : Int) != 1)
                         (2)
                         (2)))))
             (cond ((list2 : Int) == 0)
                (0)
                (cond ((list2 : Int) != 1)
                   (cond ((list3 : Int) == 0)
                      (0)
                      (cond ((list3 : Int) != 1)
                         (2)
                         (2)))
                   (cond ((list3 : Int) == 0)
                      (0)
                      (cond ((list3 : Int) != 1)
                         (2)
                         (2)))))))
       (cond ((list1 : Int) == 0)
          (0)
          (cond ((list1 : Int) != 1)
             (cond ((list2 : Int) == 0)
                (0)
                (cond ((list2 : Int) != 1)
                   (cond ((list3 : Int) == 0)
                      (0)
                      (cond ((list3 : Int) != 1)
                         (2)
                         (2)))
                   (cond ((list3 : Int) == 0)
                      (0)
                      (cond ((list3 : Int) != 1)
                         (2)
                         (2)))))
             (cond ((list2 : Int) == 0)
                (0)
                (cond ((list2 : Int) != 1)
                   (cond ((list3 : Int) == 0)
                      (0)
                      (cond ((list3 : Int) != 1)
                         (2)
                         (2)))
                   (cond ((list3 : Int) == 0)
                      (0)
                      (cond ((list3 : Int) != 1)
                         (2)
                         (1))))))))
def shape_all_s4.fns : FuncId → List Value → Option (Bool × Value) := noFns
theorem shape_all_s4.fnsOK : PureFns Try.prog shape_all_s4.fns := noFnsOK
theorem shape_all_s4.ev (M : Prims)   (list0 : Int) (list1 : Int) (list2 : Int) (list3 : Int) : evP tab M shape_all_s4.fns noLoops 300 Try.f72 [.tuple ⟨[.int .i64 40, .int .i64 4, .int .i64 4, .int .i64 list0, .int .i64 list1, .int .i64 list2, .int .i64 list3]⟩] = shape_all_s4.k M   list0 list1 list2 list3 (fun r => some ((.int .i64 r), [([.int .i64 list0, .int .i64 list1, .int .i64 list2, .int .i64 list3], 40)])) := by kernel_rfl
theorem shape_all_s4.k_eq (M : Prims) (list0 : Int) (list1 : Int) (list2 : Int) (list3 : Int) (k : Int → R) : shape_all_s4.k M  list0 list1 list2 list3 k = k (shape_all_s4 M list0 list1 list2 list3) := by
  unfold shape_all_s4.k shape_all_s4
  exact pC rfl (pC (pC rfl (pC (pC rfl (pC (pC rfl (pC rfl rfl)) (pC rfl (pC rfl rfl)))) (pC rfl (pC (pC rfl (pC rfl rfl)) (pC rfl (pC rfl rfl)))))) (pC rfl (pC (pC rfl (pC (pC rfl (pC rfl rfl)) (pC rfl (pC rfl rfl)))) (pC rfl (pC (pC rfl (pC rfl rfl)) (pC rfl (pC rfl rfl)))))))
theorem shape_all_s4.call (list0 : Int) (list1 : Int) (list2 : Int) (list3 : Int) : PureOK Try.prog 72 [.tuple ⟨[.int .i64 40, .int .i64 4, .int .i64 4, .int .i64 list0, .int .i64 list1, .int .i64 list2, .int .i64 list3]⟩] (.int .i64 (shape_all_s4 M0 list0 list1 list2 list3)) :=
  evP_sound (P := Try.prog) mixed tabOK shape_all_s4.fnsOK Try.func72 rfl (Λ := noLoops) (c := Try.f72.body.getD .skip) rfl (noLoopsOK _) rfl (Nat.le_refl 1) rfl rfl ((shape_all_s4.ev M0  list0 list1 list2 list3).trans (shape_all_s4.k_eq M0 list0 list1 list2 list3 _))
def shape_all_s4.ph (c72_4 : Int → Int → Int → Int → Int) : Ph := fun args => match args with
  | [.tuple ⟨[.int .i64 40, .int .i64 4, .int .i64 4, .int .i64 a0_0, .int .i64 a0_1, .int .i64 a0_2, .int .i64 a0_3]⟩] => some (true, (.int .i64 (c72_4 a0_0 a0_1 a0_2 a0_3)))
  | _ => none
theorem shape_all_s4.phOK : PhOK Try.prog 72 (shape_all_s4.ph (shape_all_s4 M0)) := ⟨by
  intro args v h
  unfold shape_all_s4.ph at h
  split at h
  · rename_i a0_0 a0_1 a0_2 a0_3
    simp only [Option.some.injEq, Prod.mk.injEq, true_and] at h
    subst h
    exact ⟨rfl, rfl, shape_all_s4.call a0_0 a0_1 a0_2 a0_3⟩
  · cases h⟩
end Go.Lan
