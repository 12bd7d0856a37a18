import Derived.Test.YtpgjihkaocahbaaGreatGKpKr
import Derived.Test.YtpgjihkaocahbaaGreatProg
import Derived.KernelRfl
namespace Go.Lan
open Go.Proofs
def tab0 : Tab := [
  (2, ⟨1, [.int .i64 0], .int .i64, false⟩),
  (3, ⟨1, [.int .i64 0], .int .i64, false⟩),
  (4, ⟨1, [.bool false], .bool, false⟩),
  (5, ⟨1, [.int .u8 0], .int .u8, false⟩),
  (6, ⟨1, [.int .u8 0], .int .u8, false⟩),
  (7, ⟨4, [.int .i64 0, .int .i64 0, .bool false, .int .u8 0], .struct [(0, 2), (1, 3), (2, 4), (3, 6)], true⟩),
  (8, ⟨4, [.int .i64 0, .int .i64 0, .bool false, .int .u8 0], .struct [(0, 2), (1, 3), (2, 4), (3, 6)], true⟩),
  (9, ⟨1, [.string ⟨#[]⟩], .string, false⟩),
  (10, ⟨1, [.string ⟨#[]⟩], .string, false⟩),
  (11, ⟨1, [.string ⟨#[]⟩], .string, false⟩),
  (12, ⟨1, [.int .u64 0], .int .u64, false⟩),
  (13, ⟨2, [.string ⟨#[]⟩, .int .u64 0], .struct [(0, 9), (1, 12)], false⟩),
  (14, ⟨2, [.string ⟨#[]⟩, .int .u64 0], .struct [(0, 9), (1, 12)], false⟩),
  (15, ⟨1, [.pointer none], .pointer 205, false⟩),
  (16, ⟨1, [.pointer none], .pointer 208, false⟩),
  (17, ⟨1, [.pointer none], .pointer 216, false⟩),
  (18, ⟨1, [.pointer none], .struct [(0, 17)], false⟩),
  (19, ⟨1, [.pointer none], .struct [(0, 17)], false⟩),
  (21, ⟨1, [.int .i32 0], .int .i32, false⟩),
  (22, ⟨1, [.int .i64 0], .int .i64, false⟩),
  (23, ⟨1, [.float .f64 0], .float .f64, false⟩),
  (24, ⟨2, [.float .f64 0, .float .f64 0], .struct [(0, 23), (1, 23)], true⟩),
  (25, ⟨2, [.float .f64 0, .float .f64 0], .struct [(0, 23), (1, 23)], true⟩),
  (26, ⟨6, [.float .f64 0, .float .f64 0, .float .f64 0, .float .f64 0, .float .f64 0, .float .f64 0], .array 3 25, true⟩),
  (27, ⟨6, [.float .f64 0, .float .f64 0, .float .f64 0, .float .f64 0, .float .f64 0, .float .f64 0], .array 3 25, true⟩),
  (28, ⟨18, [.float .f64 0, .float .f64 0, .float .f64 0, .float .f64 0, .float .f64 0, .float .f64 0, .float .f64 0, .float .f64 0, .float .f64 0, .float .f64 0, .float .f64 0, .float .f64 0, .float .f64 0, .float .f64 0, .float .f64 0, .float .f64 0, .float .f64 0, .float .f64 0], .array 3 27, true⟩),
  (29, ⟨21, [.int .i64 0, .float .f64 0, .float .f64 0, .float .f64 0, .float .f64 0, .float .f64 0, .float .f64 0, .float .f64 0, .float .f64 0, .float .f64 0, .float .f64 0, .float .f64 0, .float .f64 0, .float .f64 0, .float .f64 0, .float .f64 0, .float .f64 0, .float .f64 0, .float .f64 0, .float .f64 0, .float .f64 0], .struct [(0, 22), (1, 28), (19, 25)], true⟩),
  (30, ⟨21, [.int .i64 0, .float .f64 0, .float .f64 0, .float .f64 0, .float .f64 0, .float .f64 0, .float .f64 0, .float .f64 0, .float .f64 0, .float .f64 0, .float .f64 0, .float .f64 0, .float .f64 0, .float .f64 0, .float .f64 0, .float .f64 0, .float .f64 0, .float .f64 0, .float .f64 0, .float .f64 0, .float .f64 0], .struct [(0, 22), (1, 28), (19, 25)], true⟩),
  (39, ⟨3, [.float .f64 0, .float .f64 0, .float .f64 0], .array 3 23, true⟩),
  (40, ⟨3, [.float .f64 0, .float .f64 0, .float .f64 0], .array 3 23, true⟩),
  (41, ⟨6, [.float .f64 0, .float .f64 0, .float .f64 0, .float .f64 0, .float .f64 0, .float .f64 0], .struct [(0, 40), (3, 40)], true⟩),
  (42, ⟨6, [.float .f64 0, .float .f64 0, .float .f64 0, .float .f64 0, .float .f64 0, .float .f64 0], .struct [(0, 40), (3, 40)], true⟩),
  (45, ⟨12, [.float .f64 0, .float .f64 0, .float .f64 0, .float .f64 0, .float .f64 0, .float .f64 0, .float .f64 0, .float .f64 0, .float .f64 0, .float .f64 0, .float .f64 0, .float .f64 0], .struct [(0, 27), (6, 27)], true⟩),
  (46, ⟨12, [.float .f64 0, .float .f64 0, .float .f64 0, .float .f64 0, .float .f64 0, .float .f64 0, .float .f64 0, .float .f64 0, .float .f64 0, .float .f64 0, .float .f64 0, .float .f64 0], .struct [(0, 27), (6, 27)], true⟩),
  (52, ⟨1, [.pointer none], .pointer 99, false⟩),
  (53, ⟨1, [.int .i64 0], .int .i64, false⟩),
  (56, ⟨1, [.slice none 0 0], .slice 30, false⟩),
  (57, ⟨1, [.int .i64 0], .int .i64, false⟩),
  (58, ⟨7, [.int .i64 0, .float .f64 0, .float .f64 0, .float .f64 0, .float .f64 0, .float .f64 0, .float .f64 0], .struct [(0, 57), (1, 25), (3, 25), (5, 25)], true⟩),
  (59, ⟨7, [.int .i64 0, .float .f64 0, .float .f64 0, .float .f64 0, .float .f64 0, .float .f64 0, .float .f64 0], .struct [(0, 57), (1, 25), (3, 25), (5, 25)], true⟩)]
def tab1 : Tab := [
  (60, ⟨9, [.int .i64 0, .int .i64 0, .float .f64 0, .float .f64 0, .float .f64 0, .float .f64 0, .float .f64 0, .float .f64 0, .bool false], .struct [(0, 3), (1, 59), (8, 4)], true⟩),
  (61, ⟨9, [.int .i64 0, .int .i64 0, .float .f64 0, .float .f64 0, .float .f64 0, .float .f64 0, .float .f64 0, .float .f64 0, .bool false], .struct [(0, 3), (1, 59), (8, 4)], true⟩),
  (71, ⟨1, [.int .u64 0], .int .u64, false⟩),
  (82, ⟨1, [.int .u64 0], .int .u64, false⟩),
  (95, ⟨1, [.slice none 0 0], .slice 42, false⟩),
  (96, ⟨1, [.slice none 0 0], .slice 3, false⟩),
  (97, ⟨1, [.slice none 0 0], .slice 130, false⟩),
  (98, ⟨4, [.slice none 0 0, .slice none 0 0, .slice none 0 0, .slice none 0 0], .struct [(0, 56), (1, 95), (2, 96), (3, 97)], false⟩),
  (99, ⟨4, [.slice none 0 0, .slice none 0 0, .slice none 0 0, .slice none 0 0], .struct [(0, 56), (1, 95), (2, 96), (3, 97)], false⟩),
  (101, ⟨9, [.int .i64 0, .int .i64 0, .float .f64 0, .float .f64 0, .float .f64 0, .float .f64 0, .float .f64 0, .float .f64 0, .float .f64 0], .struct [(0, 3), (1, 59), (8, 23)], true⟩),
  (102, ⟨9, [.int .i64 0, .int .i64 0, .float .f64 0, .float .f64 0, .float .f64 0, .float .f64 0, .float .f64 0, .float .f64 0, .float .f64 0], .struct [(0, 3), (1, 59), (8, 23)], true⟩),
  (103, ⟨1, [.slice none 0 0], .slice 102, false⟩),
  (109, ⟨1, [.slice none 0 0], .slice 59, false⟩),
  (110, ⟨1, [.slice none 0 0], .slice 23, false⟩),
  (116, ⟨2, [.float .f64 0, .float .f64 0], .array 2 23, true⟩),
  (129, ⟨10, [.float .f64 0, .float .f64 0, .float .f64 0, .float .f64 0, .float .f64 0, .float .f64 0, .int .i64 0, .int .i64 0, .int .i64 0, .int .i64 0], .struct [(0, 42), (6, 3), (7, 3), (8, 3), (9, 3)], true⟩),
  (130, ⟨10, [.float .f64 0, .float .f64 0, .float .f64 0, .float .f64 0, .float .f64 0, .float .f64 0, .int .i64 0, .int .i64 0, .int .i64 0, .int .i64 0], .struct [(0, 42), (6, 3), (7, 3), (8, 3), (9, 3)], true⟩),
  (133, ⟨1, [.pointer none], .pointer 130, false⟩),
  (137, ⟨1, [.slice none 0 0], .slice 57, false⟩),
  (146, ⟨5, [.bool false, .int .u64 0, .int .u64 0, .int .i64 0, .bool false], .struct [(0, 4), (1, 82), (2, 82), (3, 3), (4, 4)], true⟩),
  (147, ⟨5, [.bool false, .int .u64 0, .int .u64 0, .int .i64 0, .bool false], .struct [(0, 4), (1, 82), (2, 82), (3, 3), (4, 4)], true⟩),
  (152, ⟨4, [.int .u64 0, .int .u64 0, .int .i64 0, .bool false], .struct [(0, 82), (1, 82), (2, 3), (3, 4)], true⟩),
  (153, ⟨4, [.int .u64 0, .int .u64 0, .int .i64 0, .bool false], .struct [(0, 82), (1, 82), (2, 3), (3, 4)], true⟩),
  (184, ⟨1, [.int .i64 0], .int .i64, false⟩),
  (192, ⟨1, [.int .u32 0], .int .u32, false⟩),
  (194, ⟨1, [.int .u64 0], .int .u64, false⟩),
  (198, ⟨1, [.pointer none], .pointer 3, false⟩),
  (200, ⟨1, [.pointer none], .pointer 194, false⟩),
  (204, ⟨4, [.pointer none, .pointer none, .pointer none, .string ⟨#[]⟩], .struct [(0, 17), (1, 17), (2, 17), (3, 9)], false⟩),
  (205, ⟨4, [.pointer none, .pointer none, .pointer none, .string ⟨#[]⟩], .struct [(0, 17), (1, 17), (2, 17), (3, 9)], false⟩),
  (206, ⟨0, [], .array 0 16, false⟩),
  (207, ⟨0, [], .struct [(0, 206)], false⟩),
  (208, ⟨0, [], .struct [(0, 206)], false⟩),
  (209, ⟨1, [.int .u8 0], .int .u8, false⟩),
  (210, ⟨1, [.int .u8 0], .int .u8, false⟩),
  (212, ⟨1, [.pointer none], .pointer 5, false⟩),
  (213, ⟨1, [.int .i32 0], .int .i32, false⟩),
  (214, ⟨1, [.int .i32 0], .int .i32, false⟩),
  (215, ⟨11, [.int .u64 0, .int .u64 0, .int .u32 0, .int .u8 0, .int .u8 0, .int .u8 0, .int .u8 0, .nilFunc, .pointer none, .int .i32 0, .int .i32 0], .struct [(0, 12), (1, 12), (2, 192), (3, 209), (4, 5), (5, 5), (6, 210), (7, 211), (8, 212), (9, 213), (10, 214)], false⟩),
  (216, ⟨11, [.int .u64 0, .int .u64 0, .int .u32 0, .int .u8 0, .int .u8 0, .int .u8 0, .int .u8 0, .nilFunc, .pointer none, .int .i32 0, .int .i32 0], .struct [(0, 12), (1, 12), (2, 192), (3, 209), (4, 5), (5, 5), (6, 210), (7, 211), (8, 212), (9, 213), (10, 214)], false⟩)]
def tab : Tab := appL tab0 tab1
theorem tabOK : TabOK Tryz.prog tab := tabOK_of Tryz.prog tab (by kernel_rfl)
theorem mixed : Tryz.prog.follows .mixedOrders = true := by kernel_rfl
structure LSpan where
  lo : Nat
  hi : Nat
def LSpan.val (s : LSpan) : Value := .agg ⟨[.float .f64 s.lo, .float .f64 s.hi]⟩
structure LTriple where
  p0 : Nat
  p1 : Nat
  p2 : Nat
def LTriple.val (s : LTriple) : Value := .agg ⟨[.float .f64 s.p0, .float .f64 s.p1, .float .f64 s.p2]⟩
structure LV3 where
  p0 : LSpan
  p1 : LSpan
  p2 : LSpan
def LV3.val (s : LV3) : Value := .agg ⟨[.float .f64 s.p0.lo, .float .f64 s.p0.hi, .float .f64 s.p1.lo, .float .f64 s.p1.hi, .float .f64 s.p2.lo, .float .f64 s.p2.hi]⟩
structure LA3V3 where
  p0 : LV3
  p1 : LV3
  p2 : LV3
def LA3V3.val (s : LA3V3) : Value := .agg ⟨[.float .f64 s.p0.p0.lo, .float .f64 s.p0.p0.hi, .float .f64 s.p0.p1.lo, .float .f64 s.p0.p1.hi, .float .f64 s.p0.p2.lo, .float .f64 s.p0.p2.hi, .float .f64 s.p1.p0.lo, .float .f64 s.p1.p0.hi, .float .f64 s.p1.p1.lo, .float .f64 s.p1.p1.hi, .float .f64 s.p1.p2.lo, .float .f64 s.p1.p2.hi, .float .f64 s.p2.p0.lo, .float .f64 s.p2.p0.hi, .float .f64 s.p2.p1.lo, .float .f64 s.p2.p1.hi, .float .f64 s.p2.p2.lo, .float .f64 s.p2.p2.hi]⟩
structure LShape where
  kind : Int
  p : LA3V3
  r : LSpan
def LShape.val (s : LShape) : Value := .agg ⟨[.int .i64 s.kind, .float .f64 s.p.p0.p0.lo, .float .f64 s.p.p0.p0.hi, .float .f64 s.p.p0.p1.lo, .float .f64 s.p.p0.p1.hi, .float .f64 s.p.p0.p2.lo, .float .f64 s.p.p0.p2.hi, .float .f64 s.p.p1.p0.lo, .float .f64 s.p.p1.p0.hi, .float .f64 s.p.p1.p1.lo, .float .f64 s.p.p1.p1.hi, .float .f64 s.p.p1.p2.lo, .float .f64 s.p.p1.p2.hi, .float .f64 s.p.p2.p0.lo, .float .f64 s.p.p2.p0.hi, .float .f64 s.p.p2.p1.lo, .float .f64 s.p.p2.p1.hi, .float .f64 s.p.p2.p2.lo, .float .f64 s.p.p2.p2.hi, .float .f64 s.r.lo, .float .f64 s.r.hi]⟩
structure LRay where
  o : LV3
  d : LV3
def LRay.val (s : LRay) : Value := .agg ⟨[.float .f64 s.o.p0.lo, .float .f64 s.o.p0.hi, .float .f64 s.o.p1.lo, .float .f64 s.o.p1.hi, .float .f64 s.o.p2.lo, .float .f64 s.o.p2.hi, .float .f64 s.d.p0.lo, .float .f64 s.d.p0.hi, .float .f64 s.d.p1.lo, .float .f64 s.d.p1.hi, .float .f64 s.d.p2.lo, .float .f64 s.d.p2.hi]⟩
structure LExact where
  neg : Bool
  hi : Int
  lo : Int
  e : Int
  more : Bool
def LExact.val (s : LExact) : Value := .agg ⟨[.bool s.neg, .int .u64 s.hi, .int .u64 s.lo, .int .i64 s.e, .bool s.more]⟩
structure LHit where
  answer : Int
  t : LSpan
  u : LSpan
  v : LSpan
def LHit.val (s : LHit) : Value := .agg ⟨[.int .i64 s.answer, .float .f64 s.t.lo, .float .f64 s.t.hi, .float .f64 s.u.lo, .float .f64 s.u.hi, .float .f64 s.v.lo, .float .f64 s.v.hi]⟩
structure LWord where
  hi : Int
  lo : Int
  e : Int
  more : Bool
def LWord.val (s : LWord) : Value := .agg ⟨[.int .u64 s.hi, .int .u64 s.lo, .int .i64 s.e, .bool s.more]⟩
structure LBox where
  lo : LTriple
  hi : LTriple
def LBox.val (s : LBox) : Value := .agg ⟨[.float .f64 s.lo.p0, .float .f64 s.lo.p1, .float .f64 s.lo.p2, .float .f64 s.hi.p0, .float .f64 s.hi.p1, .float .f64 s.hi.p2]⟩
def LShape.ks : List LK := [.i .i64, .f, .f, .f, .f, .f, .f, .f, .f, .f, .f, .f, .f, .f, .f, .f, .f, .f, .f, .f, .f]
def LShape.wf (s : LShape) : Prop := (IntKind.i64.min ≤ s.kind ∧ s.kind ≤ IntKind.i64.max) ∧ s.p.p0.p0.lo < 18446744073709551616 ∧ s.p.p0.p0.hi < 18446744073709551616 ∧ s.p.p0.p1.lo < 18446744073709551616 ∧ s.p.p0.p1.hi < 18446744073709551616 ∧ s.p.p0.p2.lo < 18446744073709551616 ∧ s.p.p0.p2.hi < 18446744073709551616 ∧ s.p.p1.p0.lo < 18446744073709551616 ∧ s.p.p1.p0.hi < 18446744073709551616 ∧ s.p.p1.p1.lo < 18446744073709551616 ∧ s.p.p1.p1.hi < 18446744073709551616 ∧ s.p.p1.p2.lo < 18446744073709551616 ∧ s.p.p1.p2.hi < 18446744073709551616 ∧ s.p.p2.p0.lo < 18446744073709551616 ∧ s.p.p2.p0.hi < 18446744073709551616 ∧ s.p.p2.p1.lo < 18446744073709551616 ∧ s.p.p2.p1.hi < 18446744073709551616 ∧ s.p.p2.p2.lo < 18446744073709551616 ∧ s.p.p2.p2.hi < 18446744073709551616 ∧ s.r.lo < 18446744073709551616 ∧ s.r.hi < 18446744073709551616
theorem LShape.open {l : List Value} (h : Leafs LShape.ks l) : ∃ s : LShape, (.agg ⟨l⟩ : Value) = s.val ∧ s.wf := by
  unfold LShape.ks at h
  rcases h with _ | ⟨h0, h⟩
  obtain ⟨x0, rfl, w0⟩ := h0
  rcases h with _ | ⟨h1, h⟩
  obtain ⟨x1, rfl, w1⟩ := h1
  rcases h with _ | ⟨h2, h⟩
  obtain ⟨x2, rfl, w2⟩ := h2
  rcases h with _ | ⟨h3, h⟩
  obtain ⟨x3, rfl, w3⟩ := h3
  rcases h with _ | ⟨h4, h⟩
  obtain ⟨x4, rfl, w4⟩ := h4
  rcases h with _ | ⟨h5, h⟩
  obtain ⟨x5, rfl, w5⟩ := h5
  rcases h with _ | ⟨h6, h⟩
  obtain ⟨x6, rfl, w6⟩ := h6
  rcases h with _ | ⟨h7, h⟩
  obtain ⟨x7, rfl, w7⟩ := h7
  rcases h with _ | ⟨h8, h⟩
  obtain ⟨x8, rfl, w8⟩ := h8
  rcases h with _ | ⟨h9, h⟩
  obtain ⟨x9, rfl, w9⟩ := h9
  rcases h with _ | ⟨h10, h⟩
  obtain ⟨x10, rfl, w10⟩ := h10
  rcases h with _ | ⟨h11, h⟩
  obtain ⟨x11, rfl, w11⟩ := h11
  rcases h with _ | ⟨h12, h⟩
  obtain ⟨x12, rfl, w12⟩ := h12
  rcases h with _ | ⟨h13, h⟩
  obtain ⟨x13, rfl, w13⟩ := h13
  rcases h with _ | ⟨h14, h⟩
  obtain ⟨x14, rfl, w14⟩ := h14
  rcases h with _ | ⟨h15, h⟩
  obtain ⟨x15, rfl, w15⟩ := h15
  rcases h with _ | ⟨h16, h⟩
  obtain ⟨x16, rfl, w16⟩ := h16
  rcases h with _ | ⟨h17, h⟩
  obtain ⟨x17, rfl, w17⟩ := h17
  rcases h with _ | ⟨h18, h⟩
  obtain ⟨x18, rfl, w18⟩ := h18
  rcases h with _ | ⟨h19, h⟩
  obtain ⟨x19, rfl, w19⟩ := h19
  rcases h with _ | ⟨h20, h⟩
  obtain ⟨x20, rfl, w20⟩ := h20
  cases h
  exact ⟨⟨x0, ⟨⟨⟨x1, x2⟩, ⟨x3, x4⟩, ⟨x5, x6⟩⟩, ⟨⟨x7, x8⟩, ⟨x9, x10⟩, ⟨x11, x12⟩⟩, ⟨⟨x13, x14⟩, ⟨x15, x16⟩, ⟨x17, x18⟩⟩⟩, ⟨x19, x20⟩⟩, rfl, w0, w1, w2, w3, w4, w5, w6, w7, w8, w9, w10, w11, w12, w13, w14, w15, w16, w17, w18, w19, w20⟩
def LV3.ks : List LK := [.f, .f, .f, .f, .f, .f]
def LV3.wf (s : LV3) : Prop := s.p0.lo < 18446744073709551616 ∧ s.p0.hi < 18446744073709551616 ∧ s.p1.lo < 18446744073709551616 ∧ s.p1.hi < 18446744073709551616 ∧ s.p2.lo < 18446744073709551616 ∧ s.p2.hi < 18446744073709551616
theorem LV3.open {l : List Value} (h : Leafs LV3.ks l) : ∃ s : LV3, (.agg ⟨l⟩ : Value) = s.val ∧ s.wf := by
  unfold LV3.ks at h
  rcases h with _ | ⟨h0, h⟩
  obtain ⟨x0, rfl, w0⟩ := h0
  rcases h with _ | ⟨h1, h⟩
  obtain ⟨x1, rfl, w1⟩ := h1
  rcases h with _ | ⟨h2, h⟩
  obtain ⟨x2, rfl, w2⟩ := h2
  rcases h with _ | ⟨h3, h⟩
  obtain ⟨x3, rfl, w3⟩ := h3
  rcases h with _ | ⟨h4, h⟩
  obtain ⟨x4, rfl, w4⟩ := h4
  rcases h with _ | ⟨h5, h⟩
  obtain ⟨x5, rfl, w5⟩ := h5
  cases h
  exact ⟨⟨⟨x0, x1⟩, ⟨x2, x3⟩, ⟨x4, x5⟩⟩, rfl, w0, w1, w2, w3, w4, w5⟩
def str0 : ByteArray := ⟨#[0, 1, 2, 2, 3, 3, 3, 3, 4, 4, 4, 4, 4, 4, 4, 4, 5, 5, 5, 5, 5, 5, 5, 5, 5, 5, 5, 5, 5, 5, 5, 5, 6, 6, 6, 6, 6, 6, 6, 6, 6, 6, 6, 6, 6, 6, 6, 6, 6, 6, 6, 6, 6, 6, 6, 6, 6, 6, 6, 6, 6, 6, 6, 6, 7, 7, 7, 7, 7, 7, 7, 7, 7, 7, 7, 7, 7, 7, 7, 7, 7, 7, 7, 7, 7, 7, 7, 7, 7, 7, 7, 7, 7, 7, 7, 7, 7, 7, 7, 7, 7, 7, 7, 7, 7, 7, 7, 7, 7, 7, 7, 7, 7, 7, 7, 7, 7, 7, 7, 7, 7, 7, 7, 7, 7, 7, 7, 7, 8, 8, 8, 8, 8, 8, 8, 8, 8, 8, 8, 8, 8, 8, 8, 8, 8, 8, 8, 8, 8, 8, 8, 8, 8, 8, 8, 8, 8, 8, 8, 8, 8, 8, 8, 8, 8, 8, 8, 8, 8, 8, 8, 8, 8, 8, 8, 8, 8, 8, 8, 8, 8, 8, 8, 8, 8, 8, 8, 8, 8, 8, 8, 8, 8, 8, 8, 8, 8, 8, 8, 8, 8, 8, 8, 8, 8, 8, 8, 8, 8, 8, 8, 8, 8, 8, 8, 8, 8, 8, 8, 8, 8, 8, 8, 8, 8, 8, 8, 8, 8, 8, 8, 8, 8, 8, 8, 8, 8, 8, 8, 8, 8, 8, 8, 8, 8, 8, 8, 8, 8, 8, 8, 8, 8, 8, 8, 8]⟩
def f64from (n : Int) : Nat := n.toNat
theorem f64from.call (n : Int) : PureOK Tryz.prog 115 [.int .u64 n] (.float .f64 (f64from n)) := pureOK_extern (P := Tryz.prog) rfl rfl fun w => by kernel_rfl
def f64from.ph (c115 : Int → Nat) : Ph := fun args => match args with
  | [.int .u64 a0_] => some (true, (.float .f64 (c115 a0_)))
  | _ => none
theorem f64from.phOK : PhOK Tryz.prog 115 (f64from.ph (f64from)) := ⟨by
  intro args v h
  unfold f64from.ph at h
  split at h
  · rename_i a0_
    simp only [Option.some.injEq, Prod.mk.injEq, true_and] at h
    subst h
    exact ⟨rfl, rfl, f64from.call a0_⟩
  · cases h⟩
def f64bits (x : Nat) : Int := (x : Int)
def f64bits.ok (x : Nat) : Bool := !Nat.beq x nanW
theorem f64bits.call (x : Nat) (h : f64bits.ok x = true) : PureOK Tryz.prog 48 [.float .f64 x] (.int .u64 (f64bits x)) := pureOK_extern (P := Tryz.prog) (by simp only [List.all_cons, List.all_nil, Bool.and_true]; exact h) rfl fun w => by kernel_rfl
def f64bits.ph (c48 : Nat → Int) (c48ok : Nat → Bool) : Ph := fun args => match args with
  | [.float .f64 a0_] => some (c48ok a0_, (.int .u64 (c48 a0_)))
  | _ => none
theorem f64bits.phOK : PhOK Tryz.prog 48 (f64bits.ph (f64bits) (f64bits.ok)) := ⟨by
  intro args v h
  unfold f64bits.ph at h
  split at h
  · rename_i a0_
    simp only [Option.some.injEq, Prod.mk.injEq] at h
    obtain ⟨hok, rfl⟩ := h
    exact ⟨rfl, rfl, f64bits.call a0_ hok⟩
  · cases h⟩
def add64 (x y c : Int) : Int × Int := (Int.ofNat ((x.toNat + y.toNat + c.toNat) % Extern.MathBitsCarry.m64), Int.ofNat ((x.toNat + y.toNat + c.toNat) / Extern.MathBitsCarry.m64))
def add64.ok (_ _ c : Int) : Bool := decide (c ≤ 1)
def add64.run : Array Value → Sem Value := fun args => do
  let (x, y, c) ← Extern.MathBitsCarry.three "Add64" args
  pure (Extern.MathBitsCarry.pair ((x + y + c) % Extern.MathBitsCarry.m64) ((x + y + c) / Extern.MathBitsCarry.m64))
theorem add64.at (x y c : Int) (w : World) : (callFunc 175 ⟨[.int .u64 x, .int .u64 y, .int .u64 c]⟩).run Tryz.prog w = ((add64.run #[.int .u64 x, .int .u64 y, .int .u64 c] >>= fun v => pure (Next.value v)).run Tryz.prog w) := by kernel_rfl
theorem add64.call (x y c : Int) (h : add64.ok x y c = true) : PureOK Tryz.prog 175 [.int .u64 x, .int .u64 y, .int .u64 c] (.tuple ⟨[.int .u64 (add64 x y c).1, .int .u64 (add64 x y c).2]⟩) :=
  pureOK_extern (P := Tryz.prog) rfl rfl fun w => (add64.at x y c w).trans (by
    simp only [add64.run, Sem.run_bind, three3 _ x y c (of_decide_eq_true h), Result.andThen_ok, Sem.run_pure]; rfl)
def add64.ph (c175 : Int → Int → Int → Int × Int) (c175ok : Int → Int → Int → Bool) : Ph := fun args => match args with
  | [.int .u64 a0_, .int .u64 a1_, .int .u64 a2_] => some (c175ok a0_ a1_ a2_, .tuple ⟨[(.int .u64 ((c175 a0_ a1_ a2_).1)), (.int .u64 ((c175 a0_ a1_ a2_).2))]⟩)
  | _ => none
theorem add64.phOK : PhOK Tryz.prog 175 (add64.ph (add64) (add64.ok)) := ⟨by
  intro args v h
  unfold add64.ph at h
  split at h
  · rename_i a0_ a1_ a2_
    simp only [Option.some.injEq, Prod.mk.injEq] at h
    obtain ⟨hok, rfl⟩ := h
    exact ⟨rfl, rfl, add64.call a0_ a1_ a2_ hok⟩
  · cases h⟩
def sub64 (x y c : Int) : Int × Int := (Int.ofNat ((x.toNat + Extern.MathBitsCarry.m64 - y.toNat - c.toNat) % Extern.MathBitsCarry.m64), Int.ofNat (if x.toNat < y.toNat + c.toNat then 1 else 0))
def sub64.ok (_ _ c : Int) : Bool := decide (c ≤ 1)
def sub64.run : Array Value → Sem Value := fun args => do
  let (x, y, b) ← Extern.MathBitsCarry.three "Sub64" args
  pure (Extern.MathBitsCarry.pair ((x + Extern.MathBitsCarry.m64 - y - b) % Extern.MathBitsCarry.m64) (if x < y + b then 1 else 0))
theorem sub64.at (x y c : Int) (w : World) : (callFunc 176 ⟨[.int .u64 x, .int .u64 y, .int .u64 c]⟩).run Tryz.prog w = ((sub64.run #[.int .u64 x, .int .u64 y, .int .u64 c] >>= fun v => pure (Next.value v)).run Tryz.prog w) := by kernel_rfl
theorem sub64.call (x y c : Int) (h : sub64.ok x y c = true) : PureOK Tryz.prog 176 [.int .u64 x, .int .u64 y, .int .u64 c] (.tuple ⟨[.int .u64 (sub64 x y c).1, .int .u64 (sub64 x y c).2]⟩) :=
  pureOK_extern (P := Tryz.prog) rfl rfl fun w => (sub64.at x y c w).trans (by
    simp only [sub64.run, Sem.run_bind, three3 _ x y c (of_decide_eq_true h), Result.andThen_ok, Sem.run_pure]; rfl)
def sub64.ph (c176 : Int → Int → Int → Int × Int) (c176ok : Int → Int → Int → Bool) : Ph := fun args => match args with
  | [.int .u64 a0_, .int .u64 a1_, .int .u64 a2_] => some (c176ok a0_ a1_ a2_, .tuple ⟨[(.int .u64 ((c176 a0_ a1_ a2_).1)), (.int .u64 ((c176 a0_ a1_ a2_).2))]⟩)
  | _ => none
theorem sub64.phOK : PhOK Tryz.prog 176 (sub64.ph (sub64) (sub64.ok)) := ⟨by
  intro args v h
  unfold sub64.ph at h
  split at h
  · rename_i a0_ a1_ a2_
    simp only [Option.some.injEq, Prod.mk.injEq] at h
    obtain ⟨hok, rfl⟩ := h
    exact ⟨rfl, rfl, sub64.call a0_ a1_ a2_ hok⟩
  · cases h⟩
end Go.Lan

namespace Go.Lan
open Go.Proofs
def lanternref01_Number.k (M : Prims) (x : Nat) (k : Bool → R) : R :=
  k (M.eq (M.sub x x) 0)
def lanternref01_Number (M : Prims) (x : Nat) : Bool :=
  (M.eq (M.sub x x) 0)
def lanternref01_Number.fns : FuncId → List Value → Option (Bool × Value) := noFns
theorem lanternref01_Number.fnsOK : PureFns Tryz.prog lanternref01_Number.fns := noFnsOK
theorem lanternref01_Number.ev (M : Prims)   (x : Nat) : evP tab M lanternref01_Number.fns noLoops 300 Tryz.f100 [(.float .f64 x)] = lanternref01_Number.k M   x (fun r => some ((.bool r), [])) := by kernel_rfl
theorem lanternref01_Number.k_eq (M : Prims) (x : Nat) (k : Bool → R) : lanternref01_Number.k M  x k = k (lanternref01_Number M x) := by
  unfold lanternref01_Number.k lanternref01_Number
  exact rfl
theorem lanternref01_Number.call (x : Nat) : PureOK Tryz.prog 100 [(.float .f64 x)] (.bool (lanternref01_Number M0 x)) :=
  evP_sound (P := Tryz.prog) mixed tabOK lanternref01_Number.fnsOK Tryz.func100 rfl (Λ := noLoops) (c := Tryz.f100.body.getD .skip) rfl (noLoopsOK _) rfl (Nat.zero_le 1) rfl rfl ((lanternref01_Number.ev M0  x).trans (lanternref01_Number.k_eq M0 x _))
def lanternref01_Number.ph (c100 : Nat → Bool) : Ph := fun args => match args with
  | [.float .f64 a0_] => some (true, (.bool (c100 a0_)))
  | _ => none
theorem lanternref01_Number.phOK : PhOK Tryz.prog 100 (lanternref01_Number.ph (lanternref01_Number M0)) := ⟨by
  intro args v h
  unfold lanternref01_Number.ph at h
  split at h
  · rename_i a0_
    simp only [Option.some.injEq, Prod.mk.injEq, true_and] at h
    subst h
    exact ⟨rfl, rfl, lanternref01_Number.call a0_⟩
  · cases h⟩
def lanternref01_Inf.k (_ : Prims) (c115 : Int → Nat) (k : Nat → R) : R :=
  k (c115 9218868437227405312)
def lanternref01_Inf (_ : Prims) : Nat :=
  (f64from 9218868437227405312)
def lanternref01_Inf.fns (c115 : Int → Nat) : FuncId → List Value → Option (Bool × Value) := ifId 115 (f64from.ph c115) <| noFns
theorem lanternref01_Inf.fnsOK : PureFns Tryz.prog (lanternref01_Inf.fns f64from) := ifIdOK f64from.phOK <| noFnsOK
theorem lanternref01_Inf.ev (M : Prims) (c115 : Int → Nat)   : evP tab M (lanternref01_Inf.fns c115) noLoops 300 Tryz.f65 [] = lanternref01_Inf.k M c115   (fun r => some ((.float .f64 r), [])) := by kernel_rfl
theorem lanternref01_Inf.k_eq (M : Prims)  (k : Nat → R) : lanternref01_Inf.k M f64from  k = k (lanternref01_Inf M ) := by
  unfold lanternref01_Inf.k lanternref01_Inf
  exact rfl
theorem lanternref01_Inf.call  : PureOK Tryz.prog 65 [] (.float .f64 (lanternref01_Inf M0 )) :=
  evP_sound (P := Tryz.prog) mixed tabOK lanternref01_Inf.fnsOK Tryz.func65 rfl (Λ := noLoops) (c := Tryz.f65.body.getD .skip) rfl (noLoopsOK _) rfl (Nat.zero_le 1) rfl rfl ((lanternref01_Inf.ev M0 f64from ).trans (lanternref01_Inf.k_eq M0  _))
def lanternref01_Inf.ph (c65 : Nat) : Ph := fun args => match args with
  | [] => some (true, (.float .f64 (c65)))
  | _ => none
theorem lanternref01_Inf.phOK : PhOK Tryz.prog 65 (lanternref01_Inf.ph (lanternref01_Inf M0)) := ⟨by
  intro args v h
  unfold lanternref01_Inf.ph at h
  split at h
  · simp only [Option.some.injEq, Prod.mk.injEq, true_and] at h
    subst h
    exact ⟨rfl, rfl, lanternref01_Inf.call ⟩
  · cases h⟩
def lanternref02_All.k (M : Prims) (c65 : Nat) (k : LSpan → R) : R :=
  k (⟨(M.neg c65), c65⟩ : LSpan)
def lanternref02_All (M : Prims) : LSpan :=
  (⟨(M.neg (lanternref01_Inf M)), (lanternref01_Inf M)⟩ : LSpan)
def lanternref02_All.fns (c65 : Nat) : FuncId → List Value → Option (Bool × Value) := ifId 65 (lanternref01_Inf.ph c65) <| noFns
theorem lanternref02_All.fnsOK : PureFns Tryz.prog (lanternref02_All.fns (lanternref01_Inf M0)) := ifIdOK lanternref01_Inf.phOK <| noFnsOK
theorem lanternref02_All.ev (M : Prims) (c65 : Nat)   : evP tab M (lanternref02_All.fns c65) noLoops 300 Tryz.f70 [] = lanternref02_All.k M c65   (fun r => some (r.val, [])) := by kernel_rfl
theorem lanternref02_All.k_eq (M : Prims)  (k : LSpan → R) : lanternref02_All.k M (lanternref01_Inf M)  k = k (lanternref02_All M ) := by
  unfold lanternref02_All.k lanternref02_All
  exact rfl
theorem lanternref02_All.call  : PureOK Tryz.prog 70 [] ((lanternref02_All M0 ).val) :=
  evP_sound (P := Tryz.prog) mixed tabOK lanternref02_All.fnsOK Tryz.func70 rfl (Λ := noLoops) (c := Tryz.f70.body.getD .skip) rfl (noLoopsOK _) rfl (Nat.zero_le 1) rfl rfl ((lanternref02_All.ev M0 (lanternref01_Inf M0) ).trans (lanternref02_All.k_eq M0  _))
def lanternref02_All.ph (c70 : LSpan) : Ph := fun args => match args with
  | [] => some (true, (c70).val)
  | _ => none
theorem lanternref02_All.phOK : PhOK Tryz.prog 70 (lanternref02_All.ph (lanternref02_All M0)) := ⟨by
  intro args v h
  unfold lanternref02_All.ph at h
  split at h
  · simp only [Option.some.injEq, Prod.mk.injEq, true_and] at h
    subst h
    exact ⟨rfl, rfl, lanternref02_All.call ⟩
  · cases h⟩
def lanternref01_Zeroed.k (M : Prims) (x : Nat) (k : Nat → R) : R :=
  cond (M.eq x 0)
    (k 0)
    (k x)
def lanternref01_Zeroed (M : Prims) (x : Nat) : Nat :=
  cond (M.eq x 0)
    (0)
    (x)
def lanternref01_Zeroed.fns : FuncId → List Value → Option (Bool × Value) := noFns
theorem lanternref01_Zeroed.fnsOK : PureFns Tryz.prog lanternref01_Zeroed.fns := noFnsOK
theorem lanternref01_Zeroed.ev (M : Prims)   (x : Nat) : evP tab M lanternref01_Zeroed.fns noLoops 300 Tryz.f101 [(.float .f64 x)] = lanternref01_Zeroed.k M   x (fun r => some ((.float .f64 r), [])) := by kernel_rfl
theorem lanternref01_Zeroed.k_eq (M : Prims) (x : Nat) (k : Nat → R) : lanternref01_Zeroed.k M  x k = k (lanternref01_Zeroed M x) := by
  unfold lanternref01_Zeroed.k lanternref01_Zeroed
  exact pC rfl rfl
theorem lanternref01_Zeroed.call (x : Nat) : PureOK Tryz.prog 101 [(.float .f64 x)] (.float .f64 (lanternref01_Zeroed M0 x)) :=
  evP_sound (P := Tryz.prog) mixed tabOK lanternref01_Zeroed.fnsOK Tryz.func101 rfl (Λ := noLoops) (c := Tryz.f101.body.getD .skip) rfl (noLoopsOK _) rfl (Nat.zero_le 1) rfl rfl ((lanternref01_Zeroed.ev M0  x).trans (lanternref01_Zeroed.k_eq M0 x _))
def lanternref01_Zeroed.ph (c101 : Nat → Nat) : Ph := fun args => match args with
  | [.float .f64 a0_] => some (true, (.float .f64 (c101 a0_)))
  | _ => none
theorem lanternref01_Zeroed.phOK : PhOK Tryz.prog 101 (lanternref01_Zeroed.ph (lanternref01_Zeroed M0)) := ⟨by
  intro args v h
  unfold lanternref01_Zeroed.ph at h
  split at h
  · rename_i a0_
    simp only [Option.some.injEq, Prod.mk.injEq, true_and] at h
    subst h
    exact ⟨rfl, rfl, lanternref01_Zeroed.call a0_⟩
  · cases h⟩
def lanternref02_Of.k (_ : Prims) (c100 : Nat → Bool) (c101 : Nat → Nat) (c70 : LSpan) (x : Nat) (k : LSpan → R) : R :=
  cond (!(c100 x))
    (k c70)
    (k (⟨(c101 x), (c101 x)⟩ : LSpan))
def lanternref02_Of (M : Prims) (x : Nat) : LSpan :=
  cond (!(lanternref01_Number M x))
    ((lanternref02_All M))
    ((⟨(lanternref01_Zeroed M x), (lanternref01_Zeroed M x)⟩ : LSpan))
def lanternref02_Of.fns (c100 : Nat → Bool) (c101 : Nat → Nat) (c70 : LSpan) : FuncId → List Value → Option (Bool × Value) := ifId 100 (lanternref01_Number.ph c100) <| ifId 101 (lanternref01_Zeroed.ph c101) <| ifId 70 (lanternref02_All.ph c70) <| noFns
theorem lanternref02_Of.fnsOK : PureFns Tryz.prog (lanternref02_Of.fns (lanternref01_Number M0) (lanternref01_Zeroed M0) (lanternref02_All M0)) := ifIdOK lanternref01_Number.phOK <| ifIdOK lanternref01_Zeroed.phOK <| ifIdOK lanternref02_All.phOK <| noFnsOK
theorem lanternref02_Of.ev (M : Prims) (c100 : Nat → Bool) (c101 : Nat → Nat) (c70 : LSpan)  (x : Nat) : evP tab M (lanternref02_Of.fns c100 c101 c70) noLoops 300 Tryz.f52 [(.float .f64 x)] = lanternref02_Of.k M c100 c101 c70  x (fun r => some (r.val, [])) := by kernel_rfl
theorem lanternref02_Of.k_eq (M : Prims) (x : Nat) (k : LSpan → R) : lanternref02_Of.k M (lanternref01_Number M) (lanternref01_Zeroed M) (lanternref02_All M) x k = k (lanternref02_Of M x) := by
  unfold lanternref02_Of.k lanternref02_Of
  exact pC rfl rfl
theorem lanternref02_Of.call (x : Nat) : PureOK Tryz.prog 52 [(.float .f64 x)] ((lanternref02_Of M0 x).val) :=
  evP_sound (P := Tryz.prog) mixed tabOK lanternref02_Of.fnsOK Tryz.func52 rfl (Λ := noLoops) (c := Tryz.f52.body.getD .skip) rfl (noLoopsOK _) rfl (Nat.zero_le 1) rfl rfl ((lanternref02_Of.ev M0 (lanternref01_Number M0) (lanternref01_Zeroed M0) (lanternref02_All M0) x).trans (lanternref02_Of.k_eq M0 x _))
def lanternref02_Of.ph (c52 : Nat → LSpan) : Ph := fun args => match args with
  | [.float .f64 a0_] => some (true, (c52 a0_).val)
  | _ => none
theorem lanternref02_Of.phOK : PhOK Tryz.prog 52 (lanternref02_Of.ph (lanternref02_Of M0)) := ⟨by
  intro args v h
  unfold lanternref02_Of.ph at h
  split at h
  · rename_i a0_
    simp only [Option.some.injEq, Prod.mk.injEq, true_and] at h
    subst h
    exact ⟨rfl, rfl, lanternref02_Of.call a0_⟩
  · cases h⟩
def lanternref03_Of.k (_ : Prims) (c52 : Nat → LSpan) (t : LTriple) (k : LV3 → R) : R :=
  k (⟨(c52 t.p0), (c52 t.p1), (c52 t.p2)⟩ : LV3)
def lanternref03_Of (M : Prims) (t : LTriple) : LV3 :=
  (⟨(lanternref02_Of M t.p0), (lanternref02_Of M t.p1), (lanternref02_Of M t.p2)⟩ : LV3)
def lanternref03_Of.fns (c52 : Nat → LSpan) : FuncId → List Value → Option (Bool × Value) := ifId 52 (lanternref02_Of.ph c52) <| noFns
theorem lanternref03_Of.fnsOK : PureFns Tryz.prog (lanternref03_Of.fns (lanternref02_Of M0)) := ifIdOK lanternref02_Of.phOK <| noFnsOK
theorem lanternref03_Of.ev (M : Prims) (c52 : Nat → LSpan)  (t : LTriple) : evP tab M (lanternref03_Of.fns c52) noLoops 300 Tryz.f85 [t.val] = lanternref03_Of.k M c52  t (fun r => some (r.val, [])) := by kernel_rfl
theorem lanternref03_Of.k_eq (M : Prims) (t : LTriple) (k : LV3 → R) : lanternref03_Of.k M (lanternref02_Of M) t k = k (lanternref03_Of M t) := by
  unfold lanternref03_Of.k lanternref03_Of
  exact rfl
theorem lanternref03_Of.call (t : LTriple) : PureOK Tryz.prog 85 [t.val] ((lanternref03_Of M0 t).val) :=
  evP_sound (P := Tryz.prog) mixed tabOK lanternref03_Of.fnsOK Tryz.func85 rfl (Λ := noLoops) (c := Tryz.f85.body.getD .skip) rfl (noLoopsOK _) rfl (Nat.zero_le 1) rfl rfl ((lanternref03_Of.ev M0 (lanternref02_Of M0) t).trans (lanternref03_Of.k_eq M0 t _))
def lanternref03_Of.ph (c85 : LTriple → LV3) : Ph := fun args => match args with
  | [.agg ⟨[.float .f64 a0_0, .float .f64 a0_1, .float .f64 a0_2]⟩] => some (true, (c85 (⟨a0_0, a0_1, a0_2⟩ : LTriple)).val)
  | _ => none
theorem lanternref03_Of.phOK : PhOK Tryz.prog 85 (lanternref03_Of.ph (lanternref03_Of M0)) := ⟨by
  intro args v h
  unfold lanternref03_Of.ph at h
  split at h
  · rename_i a0_0 a0_1 a0_2
    simp only [Option.some.injEq, Prod.mk.injEq, true_and] at h
    subst h
    exact ⟨rfl, rfl, lanternref03_Of.call (⟨a0_0, a0_1, a0_2⟩ : LTriple)⟩
  · cases h⟩
def lanternlaw10_Tri.k (_ : Prims) (c85 : LTriple → LV3) (a : LTriple) (b : LTriple) (c : LTriple) (k : LShape → R) : R :=
  k (⟨1, (⟨(c85 a), (c85 b), (c85 c)⟩ : LA3V3), (⟨0, 0⟩ : LSpan)⟩ : LShape)
def lanternlaw10_Tri (M : Prims) (a : LTriple) (b : LTriple) (c : LTriple) : LShape :=
  (⟨1, (⟨(lanternref03_Of M a), (lanternref03_Of M b), (lanternref03_Of M c)⟩ : LA3V3), (⟨0, 0⟩ : LSpan)⟩ : LShape)
def lanternlaw10_Tri.fns (c85 : LTriple → LV3) : FuncId → List Value → Option (Bool × Value) := ifId 85 (lanternref03_Of.ph c85) <| noFns
theorem lanternlaw10_Tri.fnsOK : PureFns Tryz.prog (lanternlaw10_Tri.fns (lanternref03_Of M0)) := ifIdOK lanternref03_Of.phOK <| noFnsOK
theorem lanternlaw10_Tri.ev (M : Prims) (c85 : LTriple → LV3)  (a : LTriple) (b : LTriple) (c : LTriple) : evP tab M (lanternlaw10_Tri.fns c85) noLoops 300 Tryz.f36 [a.val, b.val, c.val] = lanternlaw10_Tri.k M c85  a b c (fun r => some (r.val, [])) := by kernel_rfl
theorem lanternlaw10_Tri.k_eq (M : Prims) (a : LTriple) (b : LTriple) (c : LTriple) (k : LShape → R) : lanternlaw10_Tri.k M (lanternref03_Of M) a b c k = k (lanternlaw10_Tri M a b c) := by
  unfold lanternlaw10_Tri.k lanternlaw10_Tri
  exact rfl
theorem lanternlaw10_Tri.call (a : LTriple) (b : LTriple) (c : LTriple) : PureOK Tryz.prog 36 [a.val, b.val, c.val] ((lanternlaw10_Tri M0 a b c).val) :=
  evP_sound (P := Tryz.prog) mixed tabOK lanternlaw10_Tri.fnsOK Tryz.func36 rfl (Λ := noLoops) (c := Tryz.f36.body.getD .skip) rfl (noLoopsOK _) rfl (Nat.zero_le 1) rfl rfl ((lanternlaw10_Tri.ev M0 (lanternref03_Of M0) a b c).trans (lanternlaw10_Tri.k_eq M0 a b c _))
def lanternlaw10_Tri.ph (c36 : LTriple → LTriple → LTriple → LShape) : Ph := fun args => match args with
  | [.agg ⟨[.float .f64 a0_0, .float .f64 a0_1, .float .f64 a0_2]⟩, .agg ⟨[.float .f64 a1_0, .float .f64 a1_1, .float .f64 a1_2]⟩, .agg ⟨[.float .f64 a2_0, .float .f64 a2_1, .float .f64 a2_2]⟩] => some (true, (c36 (⟨a0_0, a0_1, a0_2⟩ : LTriple) (⟨a1_0, a1_1, a1_2⟩ : LTriple) (⟨a2_0, a2_1, a2_2⟩ : LTriple)).val)
  | _ => none
theorem lanternlaw10_Tri.phOK : PhOK Tryz.prog 36 (lanternlaw10_Tri.ph (lanternlaw10_Tri M0)) := ⟨by
  intro args v h
  unfold lanternlaw10_Tri.ph at h
  split at h
  · rename_i a0_0 a0_1 a0_2 a1_0 a1_1 a1_2 a2_0 a2_1 a2_2
    simp only [Option.some.injEq, Prod.mk.injEq, true_and] at h
    subst h
    exact ⟨rfl, rfl, lanternlaw10_Tri.call (⟨a0_0, a0_1, a0_2⟩ : LTriple) (⟨a1_0, a1_1, a1_2⟩ : LTriple) (⟨a2_0, a2_1, a2_2⟩ : LTriple)⟩
  · cases h⟩
def lanternlaw10_Beam.k (_ : Prims) (c85 : LTriple → LV3) (o : LTriple) (d : LTriple) (k : LRay → R) : R :=
  k (⟨(c85 o), (c85 d)⟩ : LRay)
def lanternlaw10_Beam (M : Prims) (o : LTriple) (d : LTriple) : LRay :=
  (⟨(lanternref03_Of M o), (lanternref03_Of M d)⟩ : LRay)
def lanternlaw10_Beam.fns (c85 : LTriple → LV3) : FuncId → List Value → Option (Bool × Value) := ifId 85 (lanternref03_Of.ph c85) <| noFns
theorem lanternlaw10_Beam.fnsOK : PureFns Tryz.prog (lanternlaw10_Beam.fns (lanternref03_Of M0)) := ifIdOK lanternref03_Of.phOK <| noFnsOK
theorem lanternlaw10_Beam.ev (M : Prims) (c85 : LTriple → LV3)  (o : LTriple) (d : LTriple) : evP tab M (lanternlaw10_Beam.fns c85) noLoops 300 Tryz.f38 [o.val, d.val] = lanternlaw10_Beam.k M c85  o d (fun r => some (r.val, [])) := by kernel_rfl
theorem lanternlaw10_Beam.k_eq (M : Prims) (o : LTriple) (d : LTriple) (k : LRay → R) : lanternlaw10_Beam.k M (lanternref03_Of M) o d k = k (lanternlaw10_Beam M o d) := by
  unfold lanternlaw10_Beam.k lanternlaw10_Beam
  exact rfl
theorem lanternlaw10_Beam.call (o : LTriple) (d : LTriple) : PureOK Tryz.prog 38 [o.val, d.val] ((lanternlaw10_Beam M0 o d).val) :=
  evP_sound (P := Tryz.prog) mixed tabOK lanternlaw10_Beam.fnsOK Tryz.func38 rfl (Λ := noLoops) (c := Tryz.f38.body.getD .skip) rfl (noLoopsOK _) rfl (Nat.zero_le 1) rfl rfl ((lanternlaw10_Beam.ev M0 (lanternref03_Of M0) o d).trans (lanternlaw10_Beam.k_eq M0 o d _))
def lanternlaw10_Beam.ph (c38 : LTriple → LTriple → LRay) : Ph := fun args => match args with
  | [.agg ⟨[.float .f64 a0_0, .float .f64 a0_1, .float .f64 a0_2]⟩, .agg ⟨[.float .f64 a1_0, .float .f64 a1_1, .float .f64 a1_2]⟩] => some (true, (c38 (⟨a0_0, a0_1, a0_2⟩ : LTriple) (⟨a1_0, a1_1, a1_2⟩ : LTriple)).val)
  | _ => none
theorem lanternlaw10_Beam.phOK : PhOK Tryz.prog 38 (lanternlaw10_Beam.ph (lanternlaw10_Beam M0)) := ⟨by
  intro args v h
  unfold lanternlaw10_Beam.ph at h
  split at h
  · rename_i a0_0 a0_1 a0_2 a1_0 a1_1 a1_2
    simp only [Option.some.injEq, Prod.mk.injEq, true_and] at h
    subst h
    exact ⟨rfl, rfl, lanternlaw10_Beam.call (⟨a0_0, a0_1, a0_2⟩ : LTriple) (⟨a1_0, a1_1, a1_2⟩ : LTriple)⟩
  · cases h⟩
def span_Neg.k (M : Prims) (a : LSpan) (k : LSpan → R) : R :=
  k (⟨(M.sub 0 a.hi), (M.sub 0 a.lo)⟩ : LSpan)
def span_Neg (M : Prims) (a : LSpan) : LSpan :=
  (⟨(M.sub 0 a.hi), (M.sub 0 a.lo)⟩ : LSpan)
def span_Neg.fns : FuncId → List Value → Option (Bool × Value) := noFns
theorem span_Neg.fnsOK : PureFns Tryz.prog span_Neg.fns := noFnsOK
theorem span_Neg.ev (M : Prims)   (a : LSpan) : evP tab M span_Neg.fns noLoops 300 Tryz.f103 [a.val] = span_Neg.k M   a (fun r => some (r.val, [])) := by kernel_rfl
theorem span_Neg.k_eq (M : Prims) (a : LSpan) (k : LSpan → R) : span_Neg.k M  a k = k (span_Neg M a) := by
  unfold span_Neg.k span_Neg
  exact rfl
theorem span_Neg.call (a : LSpan) : PureOK Tryz.prog 103 [a.val] ((span_Neg M0 a).val) :=
  evP_sound (P := Tryz.prog) mixed tabOK span_Neg.fnsOK Tryz.func103 rfl (Λ := noLoops) (c := Tryz.f103.body.getD .skip) rfl (noLoopsOK _) rfl (Nat.zero_le 1) rfl rfl ((span_Neg.ev M0  a).trans (span_Neg.k_eq M0 a _))
def span_Neg.ph (c103 : LSpan → LSpan) : Ph := fun args => match args with
  | [.agg ⟨[.float .f64 a0_0, .float .f64 a0_1]⟩] => some (true, (c103 (⟨a0_0, a0_1⟩ : LSpan)).val)
  | _ => none
theorem span_Neg.phOK : PhOK Tryz.prog 103 (span_Neg.ph (span_Neg M0)) := ⟨by
  intro args v h
  unfold span_Neg.ph at h
  split at h
  · rename_i a0_0 a0_1
    simp only [Option.some.injEq, Prod.mk.injEq, true_and] at h
    subst h
    exact ⟨rfl, rfl, span_Neg.call (⟨a0_0, a0_1⟩ : LSpan)⟩
  · cases h⟩
def math_IsNaN.k (M : Prims) (f : Nat) (k : Bool → R) : R :=
  k (M.ne f f)
def math_IsNaN (M : Prims) (f : Nat) : Bool :=
  (M.ne f f)
def math_IsNaN.fns : FuncId → List Value → Option (Bool × Value) := noFns
theorem math_IsNaN.fnsOK : PureFns Tryz.prog math_IsNaN.fns := noFnsOK
theorem math_IsNaN.ev (M : Prims)   (f : Nat) : evP tab M math_IsNaN.fns noLoops 300 Tryz.f143 [(.float .f64 f)] = math_IsNaN.k M   f (fun r => some ((.bool r), [])) := by kernel_rfl
theorem math_IsNaN.k_eq (M : Prims) (f : Nat) (k : Bool → R) : math_IsNaN.k M  f k = k (math_IsNaN M f) := by
  unfold math_IsNaN.k math_IsNaN
  exact rfl
theorem math_IsNaN.call (f : Nat) : PureOK Tryz.prog 143 [(.float .f64 f)] (.bool (math_IsNaN M0 f)) :=
  evP_sound (P := Tryz.prog) mixed tabOK math_IsNaN.fnsOK Tryz.func143 rfl (Λ := noLoops) (c := Tryz.f143.body.getD .skip) rfl (noLoopsOK _) rfl (Nat.zero_le 1) rfl rfl ((math_IsNaN.ev M0  f).trans (math_IsNaN.k_eq M0 f _))
def math_IsNaN.ph (c143 : Nat → Bool) : Ph := fun args => match args with
  | [.float .f64 a0_] => some (true, (.bool (c143 a0_)))
  | _ => none
theorem math_IsNaN.phOK : PhOK Tryz.prog 143 (math_IsNaN.ph (math_IsNaN M0)) := ⟨by
  intro args v h
  unfold math_IsNaN.ph at h
  split at h
  · rename_i a0_
    simp only [Option.some.injEq, Prod.mk.injEq, true_and] at h
    subst h
    exact ⟨rfl, rfl, math_IsNaN.call a0_⟩
  · cases h⟩
def math_Abs.k (M : Prims) (c115 : Int → Nat) (c48 : Nat → Int) (c48ok : Nat → Bool) (x : Nat) (k : Nat → R) : R :=
  cond (c48ok x)
    (k (c115 (M.andNot .u64 (c48 x) 9223372036854775808)))
    (none)
def math_Abs (M : Prims) (x : Nat) : Nat :=
  (f64from (M.andNot .u64 (f64bits x) 9223372036854775808))
def math_Abs.ok (_ : Prims) (x : Nat) : Bool :=
  cond (f64bits.ok x)
    (true)
    (false)
def math_Abs.fns (c115 : Int → Nat) (c48 : Nat → Int) (c48ok : Nat → Bool) : FuncId → List Value → Option (Bool × Value) := ifId 115 (f64from.ph c115) <| ifId 48 (f64bits.ph c48 c48ok) <| noFns
theorem math_Abs.fnsOK : PureFns Tryz.prog (math_Abs.fns f64from f64bits f64bits.ok) := ifIdOK f64from.phOK <| ifIdOK f64bits.phOK <| noFnsOK
theorem math_Abs.ev (M : Prims) (c115 : Int → Nat) (c48 : Nat → Int) (c48ok : Nat → Bool)  (x : Nat) : evP tab M (math_Abs.fns c115 c48 c48ok) noLoops 300 Tryz.f168 [(.float .f64 x)] = math_Abs.k M c115 c48 c48ok  x (fun r => some ((.float .f64 r), [])) := by kernel_rfl
theorem math_Abs.k_eq (M : Prims) (x : Nat) (k : Nat → R) : math_Abs.ok M x = true → math_Abs.k M f64from f64bits f64bits.ok x k = k (math_Abs M x) := by
  unfold math_Abs.ok math_Abs.k math_Abs
  exact kL (fun _ => rfl)
theorem math_Abs.call (x : Nat) (h : math_Abs.ok M0 x = true) : PureOK Tryz.prog 168 [(.float .f64 x)] (.float .f64 (math_Abs M0 x)) :=
  evP_sound (P := Tryz.prog) mixed tabOK math_Abs.fnsOK Tryz.func168 rfl (Λ := noLoops) (c := Tryz.f168.body.getD .skip) rfl (noLoopsOK _) rfl (Nat.zero_le 1) rfl rfl ((math_Abs.ev M0 f64from f64bits f64bits.ok x).trans (math_Abs.k_eq M0 x _ h))
def math_Abs.ph (c168 : Nat → Nat) (c168ok : Nat → Bool) : Ph := fun args => match args with
  | [.float .f64 a0_] => some (c168ok a0_, (.float .f64 (c168 a0_)))
  | _ => none
theorem math_Abs.phOK : PhOK Tryz.prog 168 (math_Abs.ph (math_Abs M0) (math_Abs.ok M0)) := ⟨by
  intro args v h
  unfold math_Abs.ph at h
  split at h
  · rename_i a0_
    simp only [Option.some.injEq, Prod.mk.injEq] at h
    obtain ⟨hok, rfl⟩ := h
    exact ⟨rfl, rfl, math_Abs.call a0_ hok⟩
  · cases h⟩
def math_IsInf.k (M : Prims) (c168 : Nat → Nat) (c168ok : Nat → Bool) (f : Nat) (sign : Int) (k : Bool → R) : R :=
  cond ((sign : Int) == 0)
    (cond (c168ok f)
       (k (M.gt (c168 f) 9218868437227405311))
       (none))
    (cond (decide (sign < 0))
       (k (M.gt (M.neg f) 9218868437227405311))
       (k (M.gt f 9218868437227405311)))
def math_IsInf (M : Prims) (f : Nat) (sign : Int) : Bool :=
  cond ((sign : Int) == 0)
    ((M.gt (math_Abs M f) 9218868437227405311))
    (cond (decide (sign < 0))
       ((M.gt (M.neg f) 9218868437227405311))
       ((M.gt f 9218868437227405311)))
def math_IsInf.ok (M : Prims) (f : Nat) (sign : Int) : Bool :=
  cond ((sign : Int) == 0)
    (cond (math_Abs.ok M f)
       (true)
       (false))
    (true)
def math_IsInf.fns (c168 : Nat → Nat) (c168ok : Nat → Bool) : FuncId → List Value → Option (Bool × Value) := ifId 168 (math_Abs.ph c168 c168ok) <| noFns
theorem math_IsInf.fnsOK : PureFns Tryz.prog (math_IsInf.fns (math_Abs M0) (math_Abs.ok M0)) := ifIdOK math_Abs.phOK <| noFnsOK
theorem math_IsInf.ev (M : Prims) (c168 : Nat → Nat) (c168ok : Nat → Bool)  (f : Nat) (sign : Int) : evP tab M (math_IsInf.fns c168 c168ok) noLoops 300 Tryz.f138 [(.float .f64 f), (.int .i64 sign)] = math_IsInf.k M c168 c168ok  f sign (fun r => some ((.bool r), [])) := by kernel_rfl
theorem math_IsInf.k_eq (M : Prims) (f : Nat) (sign : Int) (k : Bool → R) : math_IsInf.ok M f sign = true → math_IsInf.k M (math_Abs M) (math_Abs.ok M) f sign k = k (math_IsInf M f sign) := by
  unfold math_IsInf.ok math_IsInf.k math_IsInf
  exact kC (kL (fun _ => rfl)) (fun _ => pC rfl rfl)
theorem math_IsInf.call (f : Nat) (sign : Int) (h : math_IsInf.ok M0 f sign = true) : PureOK Tryz.prog 138 [(.float .f64 f), (.int .i64 sign)] (.bool (math_IsInf M0 f sign)) :=
  evP_sound (P := Tryz.prog) mixed tabOK math_IsInf.fnsOK Tryz.func138 rfl (Λ := noLoops) (c := Tryz.f138.body.getD .skip) rfl (noLoopsOK _) rfl (Nat.zero_le 1) rfl rfl ((math_IsInf.ev M0 (math_Abs M0) (math_Abs.ok M0) f sign).trans (math_IsInf.k_eq M0 f sign _ h))
def math_IsInf.ph (c138 : Nat → Int → Bool) (c138ok : Nat → Int → Bool) : Ph := fun args => match args with
  | [.float .f64 a0_, .int .i64 a1_] => some (c138ok a0_ a1_, (.bool (c138 a0_ a1_)))
  | _ => none
theorem math_IsInf.phOK : PhOK Tryz.prog 138 (math_IsInf.ph (math_IsInf M0) (math_IsInf.ok M0)) := ⟨by
  intro args v h
  unfold math_IsInf.ph at h
  split at h
  · rename_i a0_ a1_
    simp only [Option.some.injEq, Prod.mk.injEq] at h
    obtain ⟨hok, rfl⟩ := h
    exact ⟨rfl, rfl, math_IsInf.call a0_ a1_ hok⟩
  · cases h⟩
def round_Number.k (_ : Prims) (c138 : Nat → Int → Bool) (c138ok : Nat → Int → Bool) (c143 : Nat → Bool) (x : Nat) (k : Bool → R) : R :=
  cond (!(c143 x))
    (cond (c138ok x 0)
       (k (!(c138 x 0)))
       (none))
    (k false)
def round_Number (M : Prims) (x : Nat) : Bool :=
  cond (!(math_IsNaN M x))
    ((!(math_IsInf M x 0)))
    (false)
def round_Number.ok (M : Prims) (x : Nat) : Bool :=
  cond (!(math_IsNaN M x))
    (cond (math_IsInf.ok M x 0)
       (true)
       (false))
    (true)
def round_Number.fns (c138 : Nat → Int → Bool) (c138ok : Nat → Int → Bool) (c143 : Nat → Bool) : FuncId → List Value → Option (Bool × Value) := ifId 138 (math_IsInf.ph c138 c138ok) <| ifId 143 (math_IsNaN.ph c143) <| noFns
theorem round_Number.fnsOK : PureFns Tryz.prog (round_Number.fns (math_IsInf M0) (math_IsInf.ok M0) (math_IsNaN M0)) := ifIdOK math_IsInf.phOK <| ifIdOK math_IsNaN.phOK <| noFnsOK
theorem round_Number.ev (M : Prims) (c138 : Nat → Int → Bool) (c138ok : Nat → Int → Bool) (c143 : Nat → Bool)  (x : Nat) : evP tab M (round_Number.fns c138 c138ok c143) noLoops 300 Tryz.f96 [(.float .f64 x)] = round_Number.k M c138 c138ok c143  x (fun r => some ((.bool r), [])) := by kernel_rfl
theorem round_Number.k_eq (M : Prims) (x : Nat) (k : Bool → R) : round_Number.ok M x = true → round_Number.k M (math_IsInf M) (math_IsInf.ok M) (math_IsNaN M) x k = k (round_Number M x) := by
  unfold round_Number.ok round_Number.k round_Number
  exact kC (kL (fun _ => rfl)) (fun _ => rfl)
theorem round_Number.call (x : Nat) (h : round_Number.ok M0 x = true) : PureOK Tryz.prog 96 [(.float .f64 x)] (.bool (round_Number M0 x)) :=
  evP_sound (P := Tryz.prog) mixed tabOK round_Number.fnsOK Tryz.func96 rfl (Λ := noLoops) (c := Tryz.f96.body.getD .skip) rfl (noLoopsOK _) rfl (Nat.zero_le 1) rfl rfl ((round_Number.ev M0 (math_IsInf M0) (math_IsInf.ok M0) (math_IsNaN M0) x).trans (round_Number.k_eq M0 x _ h))
def round_Number.ph (c96 : Nat → Bool) (c96ok : Nat → Bool) : Ph := fun args => match args with
  | [.float .f64 a0_] => some (c96ok a0_, (.bool (c96 a0_)))
  | _ => none
theorem round_Number.phOK : PhOK Tryz.prog 96 (round_Number.ph (round_Number M0) (round_Number.ok M0)) := ⟨by
  intro args v h
  unfold round_Number.ph at h
  split at h
  · rename_i a0_
    simp only [Option.some.injEq, Prod.mk.injEq] at h
    obtain ⟨hok, rfl⟩ := h
    exact ⟨rfl, rfl, round_Number.call a0_ hok⟩
  · cases h⟩
def round_two.k (_ : Prims) (c96 : Nat → Bool) (c96ok : Nat → Bool) (a : Nat) (b : Nat) (k : Bool → R) : R :=
  cond (c96ok a)
    (cond (c96 a)
       (cond (c96ok b)
          (k (c96 b))
          (none))
       (k false))
    (none)
def round_two (M : Prims) (a : Nat) (b : Nat) : Bool :=
  cond (round_Number M a)
    ((round_Number M b))
    (false)
def round_two.ok (M : Prims) (a : Nat) (b : Nat) : Bool :=
  cond (round_Number.ok M a)
    (cond (round_Number M a)
       (cond (round_Number.ok M b)
          (true)
          (false))
       (true))
    (false)
def round_two.fns (c96 : Nat → Bool) (c96ok : Nat → Bool) : FuncId → List Value → Option (Bool × Value) := ifId 96 (round_Number.ph c96 c96ok) <| noFns
theorem round_two.fnsOK : PureFns Tryz.prog (round_two.fns (round_Number M0) (round_Number.ok M0)) := ifIdOK round_Number.phOK <| noFnsOK
theorem round_two.ev (M : Prims) (c96 : Nat → Bool) (c96ok : Nat → Bool)  (a : Nat) (b : Nat) : evP tab M (round_two.fns c96 c96ok) noLoops 300 Tryz.f139 [(.float .f64 a), (.float .f64 b)] = round_two.k M c96 c96ok  a b (fun r => some ((.bool r), [])) := by kernel_rfl
theorem round_two.k_eq (M : Prims) (a : Nat) (b : Nat) (k : Bool → R) : round_two.ok M a b = true → round_two.k M (round_Number M) (round_Number.ok M) a b k = k (round_two M a b) := by
  unfold round_two.ok round_two.k round_two
  exact kL (kC (kL (fun _ => rfl)) (fun _ => rfl))
theorem round_two.call (a : Nat) (b : Nat) (h : round_two.ok M0 a b = true) : PureOK Tryz.prog 139 [(.float .f64 a), (.float .f64 b)] (.bool (round_two M0 a b)) :=
  evP_sound (P := Tryz.prog) mixed tabOK round_two.fnsOK Tryz.func139 rfl (Λ := noLoops) (c := Tryz.f139.body.getD .skip) rfl (noLoopsOK _) rfl (Nat.zero_le 1) rfl rfl ((round_two.ev M0 (round_Number M0) (round_Number.ok M0) a b).trans (round_two.k_eq M0 a b _ h))
def round_two.ph (c139 : Nat → Nat → Bool) (c139ok : Nat → Nat → Bool) : Ph := fun args => match args with
  | [.float .f64 a0_, .float .f64 a1_] => some (c139ok a0_ a1_, (.bool (c139 a0_ a1_)))
  | _ => none
theorem round_two.phOK : PhOK Tryz.prog 139 (round_two.ph (round_two M0) (round_two.ok M0)) := ⟨by
  intro args v h
  unfold round_two.ph at h
  split at h
  · rename_i a0_ a1_
    simp only [Option.some.injEq, Prod.mk.injEq] at h
    obtain ⟨hok, rfl⟩ := h
    exact ⟨rfl, rfl, round_two.call a0_ a1_ hok⟩
  · cases h⟩
def round_split.k (M : Prims) (c48 : Nat → Int) (c48ok : Nat → Bool) (x : Nat) (k : LExact → R) : R :=
  let x1 := c48 x
  cond (c48ok x)
    (let x2 := M.and .u64 x1 4503599627370495
     let x5 := IntKind.i64.wrap (M.and .u64 (shrV .u64 x1 52) 2047)
     cond ((x5 : Int) == 0)
       (k (⟨(((shrV .u64 x1 63) : Int) != 0), 0, x2, (-1074), false⟩ : LExact))
       (k (⟨(((shrV .u64 x1 63) : Int) != 0), 0, (M.or .u64 x2 4503599627370496), (IntKind.i64.wrap (x5 - 1075)), false⟩ : LExact)))
    (none)
def round_split (M : Prims) (x : Nat) : LExact :=
  let x1 := f64bits x
  let x2 := M.and .u64 x1 4503599627370495
  let x5 := IntKind.i64.wrap (M.and .u64 (shrV .u64 x1 52) 2047)
  cond ((x5 : Int) == 0)
    ((⟨(((shrV .u64 x1 63) : Int) != 0), 0, x2, (-1074), false⟩ : LExact))
    ((⟨(((shrV .u64 x1 63) : Int) != 0), 0, (M.or .u64 x2 4503599627370496), (IntKind.i64.wrap (x5 - 1075)), false⟩ : LExact))
def round_split.ok (_ : Prims) (x : Nat) : Bool :=
  cond (f64bits.ok x)
    (true)
    (false)
def round_split.fns (c48 : Nat → Int) (c48ok : Nat → Bool) : FuncId → List Value → Option (Bool × Value) := ifId 48 (f64bits.ph c48 c48ok) <| noFns
theorem round_split.fnsOK : PureFns Tryz.prog (round_split.fns f64bits f64bits.ok) := ifIdOK f64bits.phOK <| noFnsOK
theorem round_split.ev (M : Prims) (c48 : Nat → Int) (c48ok : Nat → Bool)  (x : Nat) : evP tab M (round_split.fns c48 c48ok) noLoops 300 Tryz.f140 [(.float .f64 x)] = round_split.k M c48 c48ok  x (fun r => some (r.val, [])) := by kernel_rfl
theorem round_split.k_eq (M : Prims) (x : Nat) (k : LExact → R) : round_split.ok M x = true → round_split.k M f64bits f64bits.ok x k = k (round_split M x) := by
  unfold round_split.ok round_split.k round_split
  exact kL (fun _ => pC rfl rfl)
theorem round_split.call (x : Nat) (h : round_split.ok M0 x = true) : PureOK Tryz.prog 140 [(.float .f64 x)] ((round_split M0 x).val) :=
  evP_sound (P := Tryz.prog) mixed tabOK round_split.fnsOK Tryz.func140 rfl (Λ := noLoops) (c := Tryz.f140.body.getD .skip) rfl (noLoopsOK _) rfl (Nat.zero_le 1) rfl rfl ((round_split.ev M0 f64bits f64bits.ok x).trans (round_split.k_eq M0 x _ h))
def round_split.ph (c140 : Nat → LExact) (c140ok : Nat → Bool) : Ph := fun args => match args with
  | [.float .f64 a0_] => some (c140ok a0_, (c140 a0_).val)
  | _ => none
theorem round_split.phOK : PhOK Tryz.prog 140 (round_split.ph (round_split M0) (round_split.ok M0)) := ⟨by
  intro args v h
  unfold round_split.ph at h
  split at h
  · rename_i a0_
    simp only [Option.some.injEq, Prod.mk.injEq] at h
    obtain ⟨hok, rfl⟩ := h
    exact ⟨rfl, rfl, round_split.call a0_ hok⟩
  · cases h⟩
def round_exact_zero.k (_ : Prims) (x : LExact) (k : Bool → R) : R :=
  cond ((x.hi : Int) == 0)
    (k ((x.lo : Int) == 0))
    (k false)
def round_exact_zero (_ : Prims) (x : LExact) : Bool :=
  cond ((x.hi : Int) == 0)
    (((x.lo : Int) == 0))
    (false)
def round_exact_zero.fns : FuncId → List Value → Option (Bool × Value) := noFns
theorem round_exact_zero.fnsOK : PureFns Tryz.prog round_exact_zero.fns := noFnsOK
theorem round_exact_zero.ev (M : Prims)   (x : LExact) : evP tab M round_exact_zero.fns noLoops 300 Tryz.f174 [x.val] = round_exact_zero.k M   x (fun r => some ((.bool r), [])) := by kernel_rfl
theorem round_exact_zero.k_eq (M : Prims) (x : LExact) (k : Bool → R) : round_exact_zero.k M  x k = k (round_exact_zero M x) := by
  unfold round_exact_zero.k round_exact_zero
  exact pC rfl rfl
theorem round_exact_zero.call (x : LExact) : PureOK Tryz.prog 174 [x.val] (.bool (round_exact_zero M0 x)) :=
  evP_sound (P := Tryz.prog) mixed tabOK round_exact_zero.fnsOK Tryz.func174 rfl (Λ := noLoops) (c := Tryz.f174.body.getD .skip) rfl (noLoopsOK _) rfl (Nat.zero_le 1) rfl rfl ((round_exact_zero.ev M0  x).trans (round_exact_zero.k_eq M0 x _))
def round_exact_zero.ph (c174 : LExact → Bool) : Ph := fun args => match args with
  | [.agg ⟨[.bool a0_0, .int .u64 a0_1, .int .u64 a0_2, .int .i64 a0_3, .bool a0_4]⟩] => some (true, (.bool (c174 (⟨a0_0, a0_1, a0_2, a0_3, a0_4⟩ : LExact))))
  | _ => none
theorem round_exact_zero.phOK : PhOK Tryz.prog 174 (round_exact_zero.ph (round_exact_zero M0)) := ⟨by
  intro args v h
  unfold round_exact_zero.ph at h
  split at h
  · rename_i a0_0 a0_1 a0_2 a0_3 a0_4
    simp only [Option.some.injEq, Prod.mk.injEq, true_and] at h
    subst h
    exact ⟨rfl, rfl, round_exact_zero.call (⟨a0_0, a0_1, a0_2, a0_3, a0_4⟩ : LExact)⟩
  · cases h⟩
def bits_Len64.k (_ : Prims) (x : Int) (k : Int → R) : R :=
  cond (decide (x ≥ 4294967296))
    (let x2 := shrV .u64 x 32
     cond (decide (x2 ≥ 65536))
       (let x4 := shrV .u64 x2 16
        cond (decide (x4 ≥ 256))
          (let x7 := IntKind.u8.wrap (shrV .u64 x4 8)
           cond (decide (0 ≤ x7) && decide (x7 < (str0).size))
             (k (IntKind.i64.wrap (56 + (IntKind.i64.wrap ((str0.data.toList.getD (Int.toNat x7) 0).toNat)))))
             (none))
          (let x11 := IntKind.u8.wrap x4
           cond (decide (0 ≤ x11) && decide (x11 < (str0).size))
             (k (IntKind.i64.wrap (48 + (IntKind.i64.wrap ((str0.data.toList.getD (Int.toNat x11) 0).toNat)))))
             (none)))
       (cond (decide (x2 ≥ 256))
          (let x17 := IntKind.u8.wrap (shrV .u64 x2 8)
           cond (decide (0 ≤ x17) && decide (x17 < (str0).size))
             (k (IntKind.i64.wrap (40 + (IntKind.i64.wrap ((str0.data.toList.getD (Int.toNat x17) 0).toNat)))))
             (none))
          (let x21 := IntKind.u8.wrap x2
           cond (decide (0 ≤ x21) && decide (x21 < (str0).size))
             (k (IntKind.i64.wrap (32 + (IntKind.i64.wrap ((str0.data.toList.getD (Int.toNat x21) 0).toNat)))))
             (none))))
    (cond (decide (x ≥ 65536))
       (let x26 := shrV .u64 x 16
        cond (decide (x26 ≥ 256))
          (let x29 := IntKind.u8.wrap (shrV .u64 x26 8)
           cond (decide (0 ≤ x29) && decide (x29 < (str0).size))
             (k (IntKind.i64.wrap (24 + (IntKind.i64.wrap ((str0.data.toList.getD (Int.toNat x29) 0).toNat)))))
             (none))
          (let x33 := IntKind.u8.wrap x26
           cond (decide (0 ≤ x33) && decide (x33 < (str0).size))
             (k (IntKind.i64.wrap (16 + (IntKind.i64.wrap ((str0.data.toList.getD (Int.toNat x33) 0).toNat)))))
             (none)))
       (cond (decide (x ≥ 256))
          (let x39 := IntKind.u8.wrap (shrV .u64 x 8)
           cond (decide (0 ≤ x39) && decide (x39 < (str0).size))
             (k (IntKind.i64.wrap (8 + (IntKind.i64.wrap ((str0.data.toList.getD (Int.toNat x39) 0).toNat)))))
             (none))
          (let x43 := IntKind.u8.wrap x
           cond (decide (0 ≤ x43) && decide (x43 < (str0).size))
             (k (IntKind.i64.wrap (0 + (IntKind.i64.wrap ((str0.data.toList.getD (Int.toNat x43) 0).toNat)))))
             (none))))
def bits_Len64 (_ : Prims) (x : Int) : Int :=
  cond (decide (x ≥ 4294967296))
    (let x2 := shrV .u64 x 32
     cond (decide (x2 ≥ 65536))
       (let x4 := shrV .u64 x2 16
        cond (decide (x4 ≥ 256))
          ((IntKind.i64.wrap (56 + (IntKind.i64.wrap ((str0.data.toList.getD (Int.toNat (IntKind.u8.wrap (shrV .u64 x4 8))) 0).toNat)))))
          ((IntKind.i64.wrap (48 + (IntKind.i64.wrap ((str0.data.toList.getD (Int.toNat (IntKind.u8.wrap x4)) 0).toNat))))))
       (cond (decide (x2 ≥ 256))
          ((IntKind.i64.wrap (40 + (IntKind.i64.wrap ((str0.data.toList.getD (Int.toNat (IntKind.u8.wrap (shrV .u64 x2 8))) 0).toNat)))))
          ((IntKind.i64.wrap (32 + (IntKind.i64.wrap ((str0.data.toList.getD (Int.toNat (IntKind.u8.wrap x2)) 0).toNat)))))))
    (cond (decide (x ≥ 65536))
       (let x26 := shrV .u64 x 16
        cond (decide (x26 ≥ 256))
          ((IntKind.i64.wrap (24 + (IntKind.i64.wrap ((str0.data.toList.getD (Int.toNat (IntKind.u8.wrap (shrV .u64 x26 8))) 0).toNat)))))
          ((IntKind.i64.wrap (16 + (IntKind.i64.wrap ((str0.data.toList.getD (Int.toNat (IntKind.u8.wrap x26)) 0).toNat))))))
       (cond (decide (x ≥ 256))
          ((IntKind.i64.wrap (8 + (IntKind.i64.wrap ((str0.data.toList.getD (Int.toNat (IntKind.u8.wrap (shrV .u64 x 8))) 0).toNat)))))
          ((IntKind.i64.wrap (0 + (IntKind.i64.wrap ((str0.data.toList.getD (Int.toNat (IntKind.u8.wrap x)) 0).toNat)))))))
def bits_Len64.ok (_ : Prims) (x : Int) : Bool :=
  cond (decide (x ≥ 4294967296))
    (let x2 := shrV .u64 x 32
     cond (decide (x2 ≥ 65536))
       (let x4 := shrV .u64 x2 16
        cond (decide (x4 ≥ 256))
          (let x7 := IntKind.u8.wrap (shrV .u64 x4 8)
           cond (decide (0 ≤ x7) && decide (x7 < (str0).size))
             (true)
             (false))
          (let x11 := IntKind.u8.wrap x4
           cond (decide (0 ≤ x11) && decide (x11 < (str0).size))
             (true)
             (false)))
       (cond (decide (x2 ≥ 256))
          (let x17 := IntKind.u8.wrap (shrV .u64 x2 8)
           cond (decide (0 ≤ x17) && decide (x17 < (str0).size))
             (true)
             (false))
          (let x21 := IntKind.u8.wrap x2
           cond (decide (0 ≤ x21) && decide (x21 < (str0).size))
             (true)
             (false))))
    (cond (decide (x ≥ 65536))
       (let x26 := shrV .u64 x 16
        cond (decide (x26 ≥ 256))
          (let x29 := IntKind.u8.wrap (shrV .u64 x26 8)
           cond (decide (0 ≤ x29) && decide (x29 < (str0).size))
             (true)
             (false))
          (let x33 := IntKind.u8.wrap x26
           cond (decide (0 ≤ x33) && decide (x33 < (str0).size))
             (true)
             (false)))
       (cond (decide (x ≥ 256))
          (let x39 := IntKind.u8.wrap (shrV .u64 x 8)
           cond (decide (0 ≤ x39) && decide (x39 < (str0).size))
             (true)
             (false))
          (let x43 := IntKind.u8.wrap x
           cond (decide (0 ≤ x43) && decide (x43 < (str0).size))
             (true)
             (false))))
def bits_Len64.fns : FuncId → List Value → Option (Bool × Value) := noFns
theorem bits_Len64.fnsOK : PureFns Tryz.prog bits_Len64.fns := noFnsOK
theorem bits_Len64.ev (M : Prims)   (x : Int) : evP tab M bits_Len64.fns noLoops 300 Tryz.f173 [(.int .u64 x)] = bits_Len64.k M   x (fun r => some ((.int .i64 r), [])) := by kernel_rfl
theorem bits_Len64.k_eq (M : Prims) (x : Int) (k : Int → R) : bits_Len64.ok M x = true → bits_Len64.k M  x k = k (bits_Len64 M x) := by
  unfold bits_Len64.ok bits_Len64.k bits_Len64
  exact kC (kC (kC (kL (fun _ => rfl)) (kL (fun _ => rfl))) (kC (kL (fun _ => rfl)) (kL (fun _ => rfl)))) (kC (kC (kL (fun _ => rfl)) (kL (fun _ => rfl))) (kC (kL (fun _ => rfl)) (kL (fun _ => rfl))))
theorem bits_Len64.call (x : Int) (h : bits_Len64.ok M0 x = true) : PureOK Tryz.prog 173 [(.int .u64 x)] (.int .i64 (bits_Len64 M0 x)) :=
  evP_sound (P := Tryz.prog) mixed tabOK bits_Len64.fnsOK Tryz.func173 rfl (Λ := noLoops) (c := Tryz.f173.body.getD .skip) rfl (noLoopsOK _) rfl (Nat.zero_le 1) rfl rfl ((bits_Len64.ev M0  x).trans (bits_Len64.k_eq M0 x _ h))
def bits_Len64.ph (c173 : Int → Int) (c173ok : Int → Bool) : Ph := fun args => match args with
  | [.int .u64 a0_] => some (c173ok a0_, (.int .i64 (c173 a0_)))
  | _ => none
theorem bits_Len64.phOK : PhOK Tryz.prog 173 (bits_Len64.ph (bits_Len64 M0) (bits_Len64.ok M0)) := ⟨by
  intro args v h
  unfold bits_Len64.ph at h
  split at h
  · rename_i a0_
    simp only [Option.some.injEq, Prod.mk.injEq] at h
    obtain ⟨hok, rfl⟩ := h
    exact ⟨rfl, rfl, bits_Len64.call a0_ hok⟩
  · cases h⟩
def round_exact_length.k (_ : Prims) (c173 : Int → Int) (c173ok : Int → Bool) (x : LExact) (k : Int → R) : R :=
  cond ((x.hi : Int) != 0)
    (cond (c173ok x.hi)
       (k (IntKind.i64.wrap (64 + (c173 x.hi))))
       (none))
    (cond (c173ok x.lo)
       (k (c173 x.lo))
       (none))
def round_exact_length (M : Prims) (x : LExact) : Int :=
  cond ((x.hi : Int) != 0)
    ((IntKind.i64.wrap (64 + (bits_Len64 M x.hi))))
    ((bits_Len64 M x.lo))
def round_exact_length.ok (M : Prims) (x : LExact) : Bool :=
  cond ((x.hi : Int) != 0)
    (cond (bits_Len64.ok M x.hi)
       (true)
       (false))
    (cond (bits_Len64.ok M x.lo)
       (true)
       (false))
def round_exact_length.fns (c173 : Int → Int) (c173ok : Int → Bool) : FuncId → List Value → Option (Bool × Value) := ifId 173 (bits_Len64.ph c173 c173ok) <| noFns
theorem round_exact_length.fnsOK : PureFns Tryz.prog (round_exact_length.fns (bits_Len64 M0) (bits_Len64.ok M0)) := ifIdOK bits_Len64.phOK <| noFnsOK
theorem round_exact_length.ev (M : Prims) (c173 : Int → Int) (c173ok : Int → Bool)  (x : LExact) : evP tab M (round_exact_length.fns c173 c173ok) noLoops 300 Tryz.f148 [x.val] = round_exact_length.k M c173 c173ok  x (fun r => some ((.int .i64 r), [])) := by kernel_rfl
theorem round_exact_length.k_eq (M : Prims) (x : LExact) (k : Int → R) : round_exact_length.ok M x = true → round_exact_length.k M (bits_Len64 M) (bits_Len64.ok M) x k = k (round_exact_length M x) := by
  unfold round_exact_length.ok round_exact_length.k round_exact_length
  exact kC (kL (fun _ => rfl)) (kL (fun _ => rfl))
theorem round_exact_length.call (x : LExact) (h : round_exact_length.ok M0 x = true) : PureOK Tryz.prog 148 [x.val] (.int .i64 (round_exact_length M0 x)) :=
  evP_sound (P := Tryz.prog) mixed tabOK round_exact_length.fnsOK Tryz.func148 rfl (Λ := noLoops) (c := Tryz.f148.body.getD .skip) rfl (noLoopsOK _) rfl (Nat.zero_le 1) rfl rfl ((round_exact_length.ev M0 (bits_Len64 M0) (bits_Len64.ok M0) x).trans (round_exact_length.k_eq M0 x _ h))
def round_exact_length.ph (c148 : LExact → Int) (c148ok : LExact → Bool) : Ph := fun args => match args with
  | [.agg ⟨[.bool a0_0, .int .u64 a0_1, .int .u64 a0_2, .int .i64 a0_3, .bool a0_4]⟩] => some (c148ok (⟨a0_0, a0_1, a0_2, a0_3, a0_4⟩ : LExact), (.int .i64 (c148 (⟨a0_0, a0_1, a0_2, a0_3, a0_4⟩ : LExact))))
  | _ => none
theorem round_exact_length.phOK : PhOK Tryz.prog 148 (round_exact_length.ph (round_exact_length M0) (round_exact_length.ok M0)) := ⟨by
  intro args v h
  unfold round_exact_length.ph at h
  split at h
  · rename_i a0_0 a0_1 a0_2 a0_3 a0_4
    simp only [Option.some.injEq, Prod.mk.injEq] at h
    obtain ⟨hok, rfl⟩ := h
    exact ⟨rfl, rfl, round_exact_length.call (⟨a0_0, a0_1, a0_2, a0_3, a0_4⟩ : LExact) hok⟩
  · cases h⟩
def round_exact_left.k (M : Prims) (x : LExact) (n : Int) (k : LExact → R) : R :=
  cond (decide (n ≥ 64))
    (let x2 := IntKind.i64.wrap (n - 64)
     cond (decide (0 ≤ x2))
       (k (⟨x.neg, (shlV .u64 x.lo x2), 0, (IntKind.i64.wrap (x.e - n)), x.more⟩ : LExact))
       (none))
    (cond (decide (n > 0))
       (cond (decide (0 ≤ n))
          (let x7 := IntKind.i64.wrap (64 - n)
           cond (decide (0 ≤ x7))
             (cond (decide (0 ≤ n))
                (k (⟨x.neg, (M.or .u64 (shlV .u64 x.hi n) (shrV .u64 x.lo x7)), (shlV .u64 x.lo n), (IntKind.i64.wrap (x.e - n)), x.more⟩ : LExact))
                (none))
             (none))
          (none))
       (k (⟨x.neg, x.hi, x.lo, (IntKind.i64.wrap (x.e - n)), x.more⟩ : LExact)))
def round_exact_left (M : Prims) (x : LExact) (n : Int) : LExact :=
  cond (decide (n ≥ 64))
    ((⟨x.neg, (shlV .u64 x.lo (IntKind.i64.wrap (n - 64))), 0, (IntKind.i64.wrap (x.e - n)), x.more⟩ : LExact))
    (cond (decide (n > 0))
       ((⟨x.neg, (M.or .u64 (shlV .u64 x.hi n) (shrV .u64 x.lo (IntKind.i64.wrap (64 - n)))), (shlV .u64 x.lo n), (IntKind.i64.wrap (x.e - n)), x.more⟩ : LExact))
       ((⟨x.neg, x.hi, x.lo, (IntKind.i64.wrap (x.e - n)), x.more⟩ : LExact)))
def round_exact_left.ok (_ : Prims) (_ : LExact) (n : Int) : Bool :=
  cond (decide (n ≥ 64))
    (cond (decide (0 ≤ (IntKind.i64.wrap (n - 64))))
       (true)
       (false))
    (cond (decide (n > 0))
       (cond (decide (0 ≤ n))
          (cond (decide (0 ≤ (IntKind.i64.wrap (64 - n))))
             (cond (decide (0 ≤ n))
                (true)
                (false))
             (false))
          (false))
       (true))
def round_exact_left.fns : FuncId → List Value → Option (Bool × Value) := noFns
theorem round_exact_left.fnsOK : PureFns Tryz.prog round_exact_left.fns := noFnsOK
theorem round_exact_left.ev (M : Prims)   (x : LExact) (n : Int) : evP tab M round_exact_left.fns noLoops 300 Tryz.f147 [x.val, (.int .i64 n)] = round_exact_left.k M   x n (fun r => some (r.val, [])) := by kernel_rfl
theorem round_exact_left.k_eq (M : Prims) (x : LExact) (n : Int) (k : LExact → R) : round_exact_left.ok M x n = true → round_exact_left.k M  x n k = k (round_exact_left M x n) := by
  unfold round_exact_left.ok round_exact_left.k round_exact_left
  exact kC (kL (fun _ => rfl)) (kC (kL (kL (kL (fun _ => rfl)))) (fun _ => rfl))
theorem round_exact_left.call (x : LExact) (n : Int) (h : round_exact_left.ok M0 x n = true) : PureOK Tryz.prog 147 [x.val, (.int .i64 n)] ((round_exact_left M0 x n).val) :=
  evP_sound (P := Tryz.prog) mixed tabOK round_exact_left.fnsOK Tryz.func147 rfl (Λ := noLoops) (c := Tryz.f147.body.getD .skip) rfl (noLoopsOK _) rfl (Nat.zero_le 1) rfl rfl ((round_exact_left.ev M0  x n).trans (round_exact_left.k_eq M0 x n _ h))
def round_exact_left.ph (c147 : LExact → Int → LExact) (c147ok : LExact → Int → Bool) : Ph := fun args => match args with
  | [.agg ⟨[.bool a0_0, .int .u64 a0_1, .int .u64 a0_2, .int .i64 a0_3, .bool a0_4]⟩, .int .i64 a1_] => some (c147ok (⟨a0_0, a0_1, a0_2, a0_3, a0_4⟩ : LExact) a1_, (c147 (⟨a0_0, a0_1, a0_2, a0_3, a0_4⟩ : LExact) a1_).val)
  | _ => none
theorem round_exact_left.phOK : PhOK Tryz.prog 147 (round_exact_left.ph (round_exact_left M0) (round_exact_left.ok M0)) := ⟨by
  intro args v h
  unfold round_exact_left.ph at h
  split at h
  · rename_i a0_0 a0_1 a0_2 a0_3 a0_4 a1_
    simp only [Option.some.injEq, Prod.mk.injEq] at h
    obtain ⟨hok, rfl⟩ := h
    exact ⟨rfl, rfl, round_exact_left.call (⟨a0_0, a0_1, a0_2, a0_3, a0_4⟩ : LExact) a1_ hok⟩
  · cases h⟩
def round_exact_right.k (M : Prims) (c174 : LExact → Bool) (x : LExact) (n : Int) (k : LExact → R) : R :=
  let x1 := IntKind.i64.wrap (x.e + n)
  cond (decide (n ≤ 0))
    (k (⟨x.neg, x.hi, x.lo, (IntKind.i64.wrap (x1 - n)), x.more⟩ : LExact))
    (cond (decide (n ≥ 128))
       (cond x.more
          (k (⟨x.neg, 0, 0, x1, true⟩ : LExact))
          (k (⟨x.neg, 0, 0, x1, (!(c174 (⟨x.neg, x.hi, x.lo, x1, x.more⟩ : LExact)))⟩ : LExact)))
       (cond (decide (n ≥ 64))
          (cond x.more
             (let x8 := IntKind.i64.wrap (n - 64)
              cond (decide (0 ≤ x8))
                (k (⟨x.neg, 0, (shrV .u64 x.hi x8), x1, true⟩ : LExact))
                (none))
             (cond ((x.lo : Int) != 0)
                (let x11 := IntKind.i64.wrap (n - 64)
                 cond (decide (0 ≤ x11))
                   (k (⟨x.neg, 0, (shrV .u64 x.hi x11), x1, true⟩ : LExact))
                   (none))
                (let x13 := IntKind.i64.wrap (128 - n)
                 cond (decide (0 ≤ x13))
                   (cond (((shlV .u64 x.hi x13) : Int) != 0)
                      (let x17 := IntKind.i64.wrap (n - 64)
                       cond (decide (0 ≤ x17))
                         (k (⟨x.neg, 0, (shrV .u64 x.hi x17), x1, (decide (n > 64))⟩ : LExact))
                         (none))
                      (let x19 := IntKind.i64.wrap (n - 64)
                       cond (decide (0 ≤ x19))
                         (k (⟨x.neg, 0, (shrV .u64 x.hi x19), x1, false⟩ : LExact))
                         (none)))
                   (none))))
          (cond x.more
             (cond (decide (0 ≤ n))
                (cond (decide (0 ≤ n))
                   (let x23 := IntKind.i64.wrap (64 - n)
                    cond (decide (0 ≤ x23))
                      (k (⟨x.neg, (shrV .u64 x.hi n), (M.or .u64 (shrV .u64 x.lo n) (shlV .u64 x.hi x23)), x1, true⟩ : LExact))
                      (none))
                   (none))
                (none))
             (let x26 := IntKind.i64.wrap (64 - n)
              cond (decide (0 ≤ x26))
                (cond (decide (0 ≤ n))
                   (cond (decide (0 ≤ n))
                      (let x31 := IntKind.i64.wrap (64 - n)
                       cond (decide (0 ≤ x31))
                         (k (⟨x.neg, (shrV .u64 x.hi n), (M.or .u64 (shrV .u64 x.lo n) (shlV .u64 x.hi x31)), x1, (((shlV .u64 x.lo x26) : Int) != 0)⟩ : LExact))
                         (none))
                      (none))
                   (none))
                (none)))))
def round_exact_right (M : Prims) (x : LExact) (n : Int) : LExact :=
  let x1 := IntKind.i64.wrap (x.e + n)
  cond (decide (n ≤ 0))
    ((⟨x.neg, x.hi, x.lo, (IntKind.i64.wrap (x1 - n)), x.more⟩ : LExact))
    (cond (decide (n ≥ 128))
       (cond x.more
          ((⟨x.neg, 0, 0, x1, true⟩ : LExact))
          ((⟨x.neg, 0, 0, x1, (!(round_exact_zero M (⟨x.neg, x.hi, x.lo, x1, x.more⟩ : LExact)))⟩ : LExact)))
       (cond (decide (n ≥ 64))
          (cond x.more
             ((⟨x.neg, 0, (shrV .u64 x.hi (IntKind.i64.wrap (n - 64))), x1, true⟩ : LExact))
             (cond ((x.lo : Int) != 0)
                ((⟨x.neg, 0, (shrV .u64 x.hi (IntKind.i64.wrap (n - 64))), x1, true⟩ : LExact))
                (cond (((shlV .u64 x.hi (IntKind.i64.wrap (128 - n))) : Int) != 0)
                   ((⟨x.neg, 0, (shrV .u64 x.hi (IntKind.i64.wrap (n - 64))), x1, (decide (n > 64))⟩ : LExact))
                   ((⟨x.neg, 0, (shrV .u64 x.hi (IntKind.i64.wrap (n - 64))), x1, false⟩ : LExact)))))
          (cond x.more
             ((⟨x.neg, (shrV .u64 x.hi n), (M.or .u64 (shrV .u64 x.lo n) (shlV .u64 x.hi (IntKind.i64.wrap (64 - n)))), x1, true⟩ : LExact))
             ((⟨x.neg, (shrV .u64 x.hi n), (M.or .u64 (shrV .u64 x.lo n) (shlV .u64 x.hi (IntKind.i64.wrap (64 - n)))), x1, (((shlV .u64 x.lo (IntKind.i64.wrap (64 - n))) : Int) != 0)⟩ : LExact)))))
def round_exact_right.ok (_ : Prims) (x : LExact) (n : Int) : Bool :=
  cond (decide (n ≤ 0))
    (true)
    (cond (decide (n ≥ 128))
       (true)
       (cond (decide (n ≥ 64))
          (cond x.more
             (cond (decide (0 ≤ (IntKind.i64.wrap (n - 64))))
                (true)
                (false))
             (cond ((x.lo : Int) != 0)
                (cond (decide (0 ≤ (IntKind.i64.wrap (n - 64))))
                   (true)
                   (false))
                (let x13 := IntKind.i64.wrap (128 - n)
                 cond (decide (0 ≤ x13))
                   (cond (((shlV .u64 x.hi x13) : Int) != 0)
                      (cond (decide (0 ≤ (IntKind.i64.wrap (n - 64))))
                         (true)
                         (false))
                      (cond (decide (0 ≤ (IntKind.i64.wrap (n - 64))))
                         (true)
                         (false)))
                   (false))))
          (cond x.more
             (cond (decide (0 ≤ n))
                (cond (decide (0 ≤ n))
                   (cond (decide (0 ≤ (IntKind.i64.wrap (64 - n))))
                      (true)
                      (false))
                   (false))
                (false))
             (cond (decide (0 ≤ (IntKind.i64.wrap (64 - n))))
                (cond (decide (0 ≤ n))
                   (cond (decide (0 ≤ n))
                      (cond (decide (0 ≤ (IntKind.i64.wrap (64 - n))))
                         (true)
                         (false))
                      (false))
                   (false))
                (false)))))
def round_exact_right.fns (c174 : LExact → Bool) : FuncId → List Value → Option (Bool × Value) := ifId 174 (round_exact_zero.ph c174) <| noFns
theorem round_exact_right.fnsOK : PureFns Tryz.prog (round_exact_right.fns (round_exact_zero M0)) := ifIdOK round_exact_zero.phOK <| noFnsOK
theorem round_exact_right.ev (M : Prims) (c174 : LExact → Bool)  (x : LExact) (n : Int) : evP tab M (round_exact_right.fns c174) noLoops 300 Tryz.f169 [x.val, (.int .i64 n)] = round_exact_right.k M c174  x n (fun r => some (r.val, [])) := by kernel_rfl
theorem round_exact_right.k_eq (M : Prims) (x : LExact) (n : Int) (k : LExact → R) : round_exact_right.ok M x n = true → round_exact_right.k M (round_exact_zero M) x n k = k (round_exact_right M x n) := by
  unfold round_exact_right.ok round_exact_right.k round_exact_right
  exact kC (fun _ => rfl) (kC (fun _ => pC rfl rfl) (kC (kC (kL (fun _ => rfl)) (kC (kL (fun _ => rfl)) (kL (kC (kL (fun _ => rfl)) (kL (fun _ => rfl)))))) (kC (kL (kL (kL (fun _ => rfl)))) (kL (kL (kL (kL (fun _ => rfl))))))))
theorem round_exact_right.call (x : LExact) (n : Int) (h : round_exact_right.ok M0 x n = true) : PureOK Tryz.prog 169 [x.val, (.int .i64 n)] ((round_exact_right M0 x n).val) :=
  evP_sound (P := Tryz.prog) mixed tabOK round_exact_right.fnsOK Tryz.func169 rfl (Λ := noLoops) (c := Tryz.f169.body.getD .skip) rfl (noLoopsOK _) rfl (Nat.zero_le 1) rfl rfl ((round_exact_right.ev M0 (round_exact_zero M0) x n).trans (round_exact_right.k_eq M0 x n _ h))
def round_exact_right.ph (c169 : LExact → Int → LExact) (c169ok : LExact → Int → Bool) : Ph := fun args => match args with
  | [.agg ⟨[.bool a0_0, .int .u64 a0_1, .int .u64 a0_2, .int .i64 a0_3, .bool a0_4]⟩, .int .i64 a1_] => some (c169ok (⟨a0_0, a0_1, a0_2, a0_3, a0_4⟩ : LExact) a1_, (c169 (⟨a0_0, a0_1, a0_2, a0_3, a0_4⟩ : LExact) a1_).val)
  | _ => none
theorem round_exact_right.phOK : PhOK Tryz.prog 169 (round_exact_right.ph (round_exact_right M0) (round_exact_right.ok M0)) := ⟨by
  intro args v h
  unfold round_exact_right.ph at h
  split at h
  · rename_i a0_0 a0_1 a0_2 a0_3 a0_4 a1_
    simp only [Option.some.injEq, Prod.mk.injEq] at h
    obtain ⟨hok, rfl⟩ := h
    exact ⟨rfl, rfl, round_exact_right.call (⟨a0_0, a0_1, a0_2, a0_3, a0_4⟩ : LExact) a1_ hok⟩
  · cases h⟩
end Go.Lan
