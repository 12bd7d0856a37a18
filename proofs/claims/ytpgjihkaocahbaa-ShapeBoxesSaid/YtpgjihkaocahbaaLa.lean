import Derived.Test.YtpgjihkaocahbaaKr
import Derived.Test.YtpgjihkaocahbaaProg
import Derived.KernelRfl
namespace Go.Lan
open Go.Proofs
def tab0 : Tab := [
  (2, ⟨1, [.int .i64 0], .int .i64, false⟩),
  (3, ⟨1, [.int .i64 0], .int .i64, false⟩),
  (4, ⟨1, [.bool false], .bool, false⟩),
  (5, ⟨1, [.int .u8 0], .int .u8, false⟩),
  (6, ⟨1, [.int .u8 0], .int .u8, false⟩),
  (7, ⟨4, [.int .i64 0, .int .i64 0, .bool false, .int .u8 0], .struct [(0, 2), (1, 3), (2, 4), (3, 6)], true⟩),
  (8, ⟨4, [.int .i64 0, .int .i64 0, .bool false, .int .u8 0], .struct [(0, 2), (1, 3), (2, 4), (3, 6)], true⟩),
  (9, ⟨1, [.string ⟨#[]⟩], .string, false⟩),
  (10, ⟨1, [.string ⟨#[]⟩], .string, false⟩),
  (11, ⟨1, [.string ⟨#[]⟩], .string, false⟩),
  (12, ⟨1, [.int .u64 0], .int .u64, false⟩),
  (13, ⟨2, [.string ⟨#[]⟩, .int .u64 0], .struct [(0, 9), (1, 12)], false⟩),
  (14, ⟨2, [.string ⟨#[]⟩, .int .u64 0], .struct [(0, 9), (1, 12)], false⟩),
  (15, ⟨1, [.pointer none], .pointer 165, false⟩),
  (16, ⟨1, [.pointer none], .pointer 168, false⟩),
  (17, ⟨1, [.pointer none], .pointer 176, false⟩),
  (18, ⟨1, [.pointer none], .struct [(0, 17)], false⟩),
  (19, ⟨1, [.pointer none], .struct [(0, 17)], false⟩),
  (21, ⟨1, [.int .i32 0], .int .i32, false⟩),
  (22, ⟨1, [.int .i64 0], .int .i64, false⟩),
  (23, ⟨1, [.float .f64 0], .float .f64, false⟩),
  (24, ⟨2, [.float .f64 0, .float .f64 0], .struct [(0, 23), (1, 23)], true⟩),
  (25, ⟨2, [.float .f64 0, .float .f64 0], .struct [(0, 23), (1, 23)], true⟩),
  (26, ⟨6, [.float .f64 0, .float .f64 0, .float .f64 0, .float .f64 0, .float .f64 0, .float .f64 0], .array 3 25, true⟩),
  (27, ⟨6, [.float .f64 0, .float .f64 0, .float .f64 0, .float .f64 0, .float .f64 0, .float .f64 0], .array 3 25, true⟩),
  (28, ⟨18, [.float .f64 0, .float .f64 0, .float .f64 0, .float .f64 0, .float .f64 0, .float .f64 0, .float .f64 0, .float .f64 0, .float .f64 0, .float .f64 0, .float .f64 0, .float .f64 0, .float .f64 0, .float .f64 0, .float .f64 0, .float .f64 0, .float .f64 0, .float .f64 0], .array 3 27, true⟩),
  (29, ⟨21, [.int .i64 0, .float .f64 0, .float .f64 0, .float .f64 0, .float .f64 0, .float .f64 0, .float .f64 0, .float .f64 0, .float .f64 0, .float .f64 0, .float .f64 0, .float .f64 0, .float .f64 0, .float .f64 0, .float .f64 0, .float .f64 0, .float .f64 0, .float .f64 0, .float .f64 0, .float .f64 0, .float .f64 0], .struct [(0, 22), (1, 28), (19, 25)], true⟩),
  (30, ⟨21, [.int .i64 0, .float .f64 0, .float .f64 0, .float .f64 0, .float .f64 0, .float .f64 0, .float .f64 0, .float .f64 0, .float .f64 0, .float .f64 0, .float .f64 0, .float .f64 0, .float .f64 0, .float .f64 0, .float .f64 0, .float .f64 0, .float .f64 0, .float .f64 0, .float .f64 0, .float .f64 0, .float .f64 0], .struct [(0, 22), (1, 28), (19, 25)], true⟩),
  (31, ⟨12, [.float .f64 0, .float .f64 0, .float .f64 0, .float .f64 0, .float .f64 0, .float .f64 0, .float .f64 0, .float .f64 0, .float .f64 0, .float .f64 0, .float .f64 0, .float .f64 0], .struct [(0, 27), (6, 27)], true⟩),
  (32, ⟨12, [.float .f64 0, .float .f64 0, .float .f64 0, .float .f64 0, .float .f64 0, .float .f64 0, .float .f64 0, .float .f64 0, .float .f64 0, .float .f64 0, .float .f64 0, .float .f64 0], .struct [(0, 27), (6, 27)], true⟩),
  (33, ⟨6, [.float .f64 0, .float .f64 0, .float .f64 0, .float .f64 0, .float .f64 0, .float .f64 0], .array 6 23, true⟩),
  (34, ⟨24, [.float .f64 0, .float .f64 0, .float .f64 0, .float .f64 0, .float .f64 0, .float .f64 0, .float .f64 0, .float .f64 0, .float .f64 0, .float .f64 0, .float .f64 0, .float .f64 0, .float .f64 0, .float .f64 0, .float .f64 0, .float .f64 0, .float .f64 0, .float .f64 0, .float .f64 0, .float .f64 0, .float .f64 0, .float .f64 0, .float .f64 0, .float .f64 0], .array 4 33, true⟩),
  (40, ⟨1, [.int .i64 0], .int .i64, false⟩),
  (41, ⟨7, [.int .i64 0, .float .f64 0, .float .f64 0, .float .f64 0, .float .f64 0, .float .f64 0, .float .f64 0], .struct [(0, 40), (1, 25), (3, 25), (5, 25)], true⟩),
  (42, ⟨7, [.int .i64 0, .float .f64 0, .float .f64 0, .float .f64 0, .float .f64 0, .float .f64 0, .float .f64 0], .struct [(0, 40), (1, 25), (3, 25), (5, 25)], true⟩),
  (46, ⟨3, [.float .f64 0, .float .f64 0, .float .f64 0], .array 3 23, true⟩),
  (47, ⟨3, [.float .f64 0, .float .f64 0, .float .f64 0], .array 3 23, true⟩),
  (50, ⟨6, [.float .f64 0, .float .f64 0, .float .f64 0, .float .f64 0, .float .f64 0, .float .f64 0], .struct [(0, 47), (3, 47)], true⟩),
  (51, ⟨6, [.float .f64 0, .float .f64 0, .float .f64 0, .float .f64 0, .float .f64 0, .float .f64 0], .struct [(0, 47), (3, 47)], true⟩),
  (55, ⟨1, [.int .u32 0], .int .u32, false⟩)]
def tab1 : Tab := [
  (58, ⟨1, [.pointer none], .pointer 101, false⟩),
  (59, ⟨1, [.int .i64 0], .int .i64, false⟩),
  (62, ⟨1, [.int .i64 0], .int .i64, false⟩),
  (63, ⟨12, [.int .i64 0, .float .f64 0, .float .f64 0, .float .f64 0, .float .f64 0, .float .f64 0, .float .f64 0, .int .i64 0, .float .f64 0, .float .f64 0, .float .f64 0, .int .i64 0], .struct [(0, 62), (1, 27), (7, 3), (8, 47), (11, 3)], true⟩),
  (64, ⟨12, [.int .i64 0, .float .f64 0, .float .f64 0, .float .f64 0, .float .f64 0, .float .f64 0, .float .f64 0, .int .i64 0, .float .f64 0, .float .f64 0, .float .f64 0, .int .i64 0], .struct [(0, 62), (1, 27), (7, 3), (8, 47), (11, 3)], true⟩),
  (65, ⟨1, [.slice none 0 0], .slice 64, false⟩),
  (66, ⟨25, [.int .i64 0, .float .f64 0, .float .f64 0, .float .f64 0, .float .f64 0, .float .f64 0, .float .f64 0, .float .f64 0, .float .f64 0, .float .f64 0, .float .f64 0, .float .f64 0, .float .f64 0, .float .f64 0, .float .f64 0, .float .f64 0, .float .f64 0, .float .f64 0, .float .f64 0, .float .f64 0, .float .f64 0, .int .i64 0, .float .f64 0, .float .f64 0, .float .f64 0], .struct [(0, 30), (21, 3), (22, 47)], true⟩),
  (67, ⟨25, [.int .i64 0, .float .f64 0, .float .f64 0, .float .f64 0, .float .f64 0, .float .f64 0, .float .f64 0, .float .f64 0, .float .f64 0, .float .f64 0, .float .f64 0, .float .f64 0, .float .f64 0, .float .f64 0, .float .f64 0, .float .f64 0, .float .f64 0, .float .f64 0, .float .f64 0, .float .f64 0, .float .f64 0, .int .i64 0, .float .f64 0, .float .f64 0, .float .f64 0], .struct [(0, 30), (21, 3), (22, 47)], true⟩),
  (68, ⟨1, [.slice none 0 0], .slice 67, false⟩),
  (73, ⟨1, [.slice none 0 0], .slice 3, false⟩),
  (97, ⟨1, [.pointer none], .pointer 130, false⟩),
  (100, ⟨2, [.pointer none, .slice none 0 0], .struct [(0, 97), (1, 68)], false⟩),
  (101, ⟨2, [.pointer none, .slice none 0 0], .struct [(0, 97), (1, 68)], false⟩),
  (121, ⟨2, [.float .f64 0, .float .f64 0], .array 2 23, true⟩),
  (128, ⟨1, [.slice none 0 0], .slice 154, false⟩),
  (129, ⟨3, [.slice none 0 0, .slice none 0 0, .slice none 0 0], .struct [(0, 65), (1, 73), (2, 128)], false⟩),
  (130, ⟨3, [.slice none 0 0, .slice none 0 0, .slice none 0 0], .struct [(0, 65), (1, 73), (2, 128)], false⟩),
  (131, ⟨1, [.int .u64 0], .int .u64, false⟩),
  (132, ⟨1, [.int .u64 0], .int .u64, false⟩),
  (137, ⟨1, [.slice none 0 0], .slice 40, false⟩),
  (142, ⟨5, [.bool false, .int .u64 0, .int .u64 0, .int .i64 0, .bool false], .struct [(0, 4), (1, 131), (2, 131), (3, 3), (4, 4)], true⟩),
  (143, ⟨5, [.bool false, .int .u64 0, .int .u64 0, .int .i64 0, .bool false], .struct [(0, 4), (1, 131), (2, 131), (3, 3), (4, 4)], true⟩),
  (153, ⟨3, [.int .i64 0, .int .i64 0, .int .i64 0], .struct [(0, 3), (1, 3), (2, 3)], true⟩),
  (154, ⟨3, [.int .i64 0, .int .i64 0, .int .i64 0], .struct [(0, 3), (1, 3), (2, 3)], true⟩),
  (164, ⟨4, [.pointer none, .pointer none, .pointer none, .string ⟨#[]⟩], .struct [(0, 17), (1, 17), (2, 17), (3, 9)], false⟩),
  (165, ⟨4, [.pointer none, .pointer none, .pointer none, .string ⟨#[]⟩], .struct [(0, 17), (1, 17), (2, 17), (3, 9)], false⟩),
  (166, ⟨0, [], .array 0 16, false⟩),
  (167, ⟨0, [], .struct [(0, 166)], false⟩),
  (168, ⟨0, [], .struct [(0, 166)], false⟩),
  (169, ⟨1, [.int .u8 0], .int .u8, false⟩),
  (170, ⟨1, [.int .u8 0], .int .u8, false⟩),
  (172, ⟨1, [.pointer none], .pointer 5, false⟩),
  (173, ⟨1, [.int .i32 0], .int .i32, false⟩),
  (174, ⟨1, [.int .i32 0], .int .i32, false⟩),
  (175, ⟨11, [.int .u64 0, .int .u64 0, .int .u32 0, .int .u8 0, .int .u8 0, .int .u8 0, .int .u8 0, .nilFunc, .pointer none, .int .i32 0, .int .i32 0], .struct [(0, 12), (1, 12), (2, 55), (3, 169), (4, 5), (5, 5), (6, 170), (7, 171), (8, 172), (9, 173), (10, 174)], false⟩),
  (176, ⟨11, [.int .u64 0, .int .u64 0, .int .u32 0, .int .u8 0, .int .u8 0, .int .u8 0, .int .u8 0, .nilFunc, .pointer none, .int .i32 0, .int .i32 0], .struct [(0, 12), (1, 12), (2, 55), (3, 169), (4, 5), (5, 5), (6, 170), (7, 171), (8, 172), (9, 173), (10, 174)], false⟩)]
def tab : Tab := appL tab0 tab1
theorem tabOK : TabOK Try.prog tab := tabOK_of Try.prog tab (by kernel_rfl)
theorem mixed : Try.prog.follows .mixedOrders = true := by kernel_rfl
structure LSpan where
  lo : Nat
  hi : Nat
def LSpan.val (s : LSpan) : Value := .agg ⟨[.float .f64 s.lo, .float .f64 s.hi]⟩
structure LTriple where
  p0 : Nat
  p1 : Nat
  p2 : Nat
def LTriple.val (s : LTriple) : Value := .agg ⟨[.float .f64 s.p0, .float .f64 s.p1, .float .f64 s.p2]⟩
structure LV3 where
  p0 : LSpan
  p1 : LSpan
  p2 : LSpan
def LV3.val (s : LV3) : Value := .agg ⟨[.float .f64 s.p0.lo, .float .f64 s.p0.hi, .float .f64 s.p1.lo, .float .f64 s.p1.hi, .float .f64 s.p2.lo, .float .f64 s.p2.hi]⟩
structure LA3V3 where
  p0 : LV3
  p1 : LV3
  p2 : LV3
def LA3V3.val (s : LA3V3) : Value := .agg ⟨[.float .f64 s.p0.p0.lo, .float .f64 s.p0.p0.hi, .float .f64 s.p0.p1.lo, .float .f64 s.p0.p1.hi, .float .f64 s.p0.p2.lo, .float .f64 s.p0.p2.hi, .float .f64 s.p1.p0.lo, .float .f64 s.p1.p0.hi, .float .f64 s.p1.p1.lo, .float .f64 s.p1.p1.hi, .float .f64 s.p1.p2.lo, .float .f64 s.p1.p2.hi, .float .f64 s.p2.p0.lo, .float .f64 s.p2.p0.hi, .float .f64 s.p2.p1.lo, .float .f64 s.p2.p1.hi, .float .f64 s.p2.p2.lo, .float .f64 s.p2.p2.hi]⟩
structure LShape where
  kind : Int
  p : LA3V3
  r : LSpan
def LShape.val (s : LShape) : Value := .agg ⟨[.int .i64 s.kind, .float .f64 s.p.p0.p0.lo, .float .f64 s.p.p0.p0.hi, .float .f64 s.p.p0.p1.lo, .float .f64 s.p.p0.p1.hi, .float .f64 s.p.p0.p2.lo, .float .f64 s.p.p0.p2.hi, .float .f64 s.p.p1.p0.lo, .float .f64 s.p.p1.p0.hi, .float .f64 s.p.p1.p1.lo, .float .f64 s.p.p1.p1.hi, .float .f64 s.p.p1.p2.lo, .float .f64 s.p.p1.p2.hi, .float .f64 s.p.p2.p0.lo, .float .f64 s.p.p2.p0.hi, .float .f64 s.p.p2.p1.lo, .float .f64 s.p.p2.p1.hi, .float .f64 s.p.p2.p2.lo, .float .f64 s.p.p2.p2.hi, .float .f64 s.r.lo, .float .f64 s.r.hi]⟩
structure LRay where
  o : LV3
  d : LV3
def LRay.val (s : LRay) : Value := .agg ⟨[.float .f64 s.o.p0.lo, .float .f64 s.o.p0.hi, .float .f64 s.o.p1.lo, .float .f64 s.o.p1.hi, .float .f64 s.o.p2.lo, .float .f64 s.o.p2.hi, .float .f64 s.d.p0.lo, .float .f64 s.d.p0.hi, .float .f64 s.d.p1.lo, .float .f64 s.d.p1.hi, .float .f64 s.d.p2.lo, .float .f64 s.d.p2.hi]⟩
structure LExact where
  neg : Bool
  hi : Int
  lo : Int
  e : Int
  more : Bool
def LExact.val (s : LExact) : Value := .agg ⟨[.bool s.neg, .int .u64 s.hi, .int .u64 s.lo, .int .i64 s.e, .bool s.more]⟩
structure LHit where
  answer : Int
  t : LSpan
  u : LSpan
  v : LSpan
def LHit.val (s : LHit) : Value := .agg ⟨[.int .i64 s.answer, .float .f64 s.t.lo, .float .f64 s.t.hi, .float .f64 s.u.lo, .float .f64 s.u.hi, .float .f64 s.v.lo, .float .f64 s.v.hi]⟩
structure LA6F where
  p0 : Nat
  p1 : Nat
  p2 : Nat
  p3 : Nat
  p4 : Nat
  p5 : Nat
def LA6F.val (s : LA6F) : Value := .agg ⟨[.float .f64 s.p0, .float .f64 s.p1, .float .f64 s.p2, .float .f64 s.p3, .float .f64 s.p4, .float .f64 s.p5]⟩
structure LA4A6F where
  p0 : LA6F
  p1 : LA6F
  p2 : LA6F
  p3 : LA6F
def LA4A6F.val (s : LA4A6F) : Value := .agg ⟨[.float .f64 s.p0.p0, .float .f64 s.p0.p1, .float .f64 s.p0.p2, .float .f64 s.p0.p3, .float .f64 s.p0.p4, .float .f64 s.p0.p5, .float .f64 s.p1.p0, .float .f64 s.p1.p1, .float .f64 s.p1.p2, .float .f64 s.p1.p3, .float .f64 s.p1.p4, .float .f64 s.p1.p5, .float .f64 s.p2.p0, .float .f64 s.p2.p1, .float .f64 s.p2.p2, .float .f64 s.p2.p3, .float .f64 s.p2.p4, .float .f64 s.p2.p5, .float .f64 s.p3.p0, .float .f64 s.p3.p1, .float .f64 s.p3.p2, .float .f64 s.p3.p3, .float .f64 s.p3.p4, .float .f64 s.p3.p5]⟩
structure LBox where
  lo : LTriple
  hi : LTriple
def LBox.val (s : LBox) : Value := .agg ⟨[.float .f64 s.lo.p0, .float .f64 s.lo.p1, .float .f64 s.lo.p2, .float .f64 s.hi.p0, .float .f64 s.hi.p1, .float .f64 s.hi.p2]⟩
def LA4A6F.ks : List LK := [.f, .f, .f, .f, .f, .f, .f, .f, .f, .f, .f, .f, .f, .f, .f, .f, .f, .f, .f, .f, .f, .f, .f, .f]
def LA4A6F.wf (s : LA4A6F) : Prop := s.p0.p0 < 18446744073709551616 ∧ s.p0.p1 < 18446744073709551616 ∧ s.p0.p2 < 18446744073709551616 ∧ s.p0.p3 < 18446744073709551616 ∧ s.p0.p4 < 18446744073709551616 ∧ s.p0.p5 < 18446744073709551616 ∧ s.p1.p0 < 18446744073709551616 ∧ s.p1.p1 < 18446744073709551616 ∧ s.p1.p2 < 18446744073709551616 ∧ s.p1.p3 < 18446744073709551616 ∧ s.p1.p4 < 18446744073709551616 ∧ s.p1.p5 < 18446744073709551616 ∧ s.p2.p0 < 18446744073709551616 ∧ s.p2.p1 < 18446744073709551616 ∧ s.p2.p2 < 18446744073709551616 ∧ s.p2.p3 < 18446744073709551616 ∧ s.p2.p4 < 18446744073709551616 ∧ s.p2.p5 < 18446744073709551616 ∧ s.p3.p0 < 18446744073709551616 ∧ s.p3.p1 < 18446744073709551616 ∧ s.p3.p2 < 18446744073709551616 ∧ s.p3.p3 < 18446744073709551616 ∧ s.p3.p4 < 18446744073709551616 ∧ s.p3.p5 < 18446744073709551616
theorem LA4A6F.open {l : List Value} (h : Leafs LA4A6F.ks l) : ∃ s : LA4A6F, (.agg ⟨l⟩ : Value) = s.val ∧ s.wf := by
  unfold LA4A6F.ks at h
  rcases h with _ | ⟨h0, h⟩
  obtain ⟨x0, rfl, w0⟩ := h0
  rcases h with _ | ⟨h1, h⟩
  obtain ⟨x1, rfl, w1⟩ := h1
  rcases h with _ | ⟨h2, h⟩
  obtain ⟨x2, rfl, w2⟩ := h2
  rcases h with _ | ⟨h3, h⟩
  obtain ⟨x3, rfl, w3⟩ := h3
  rcases h with _ | ⟨h4, h⟩
  obtain ⟨x4, rfl, w4⟩ := h4
  rcases h with _ | ⟨h5, h⟩
  obtain ⟨x5, rfl, w5⟩ := h5
  rcases h with _ | ⟨h6, h⟩
  obtain ⟨x6, rfl, w6⟩ := h6
  rcases h with _ | ⟨h7, h⟩
  obtain ⟨x7, rfl, w7⟩ := h7
  rcases h with _ | ⟨h8, h⟩
  obtain ⟨x8, rfl, w8⟩ := h8
  rcases h with _ | ⟨h9, h⟩
  obtain ⟨x9, rfl, w9⟩ := h9
  rcases h with _ | ⟨h10, h⟩
  obtain ⟨x10, rfl, w10⟩ := h10
  rcases h with _ | ⟨h11, h⟩
  obtain ⟨x11, rfl, w11⟩ := h11
  rcases h with _ | ⟨h12, h⟩
  obtain ⟨x12, rfl, w12⟩ := h12
  rcases h with _ | ⟨h13, h⟩
  obtain ⟨x13, rfl, w13⟩ := h13
  rcases h with _ | ⟨h14, h⟩
  obtain ⟨x14, rfl, w14⟩ := h14
  rcases h with _ | ⟨h15, h⟩
  obtain ⟨x15, rfl, w15⟩ := h15
  rcases h with _ | ⟨h16, h⟩
  obtain ⟨x16, rfl, w16⟩ := h16
  rcases h with _ | ⟨h17, h⟩
  obtain ⟨x17, rfl, w17⟩ := h17
  rcases h with _ | ⟨h18, h⟩
  obtain ⟨x18, rfl, w18⟩ := h18
  rcases h with _ | ⟨h19, h⟩
  obtain ⟨x19, rfl, w19⟩ := h19
  rcases h with _ | ⟨h20, h⟩
  obtain ⟨x20, rfl, w20⟩ := h20
  rcases h with _ | ⟨h21, h⟩
  obtain ⟨x21, rfl, w21⟩ := h21
  rcases h with _ | ⟨h22, h⟩
  obtain ⟨x22, rfl, w22⟩ := h22
  rcases h with _ | ⟨h23, h⟩
  obtain ⟨x23, rfl, w23⟩ := h23
  cases h
  exact ⟨⟨⟨x0, x1, x2, x3, x4, x5⟩, ⟨x6, x7, x8, x9, x10, x11⟩, ⟨x12, x13, x14, x15, x16, x17⟩, ⟨x18, x19, x20, x21, x22, x23⟩⟩, rfl, w0, w1, w2, w3, w4, w5, w6, w7, w8, w9, w10, w11, w12, w13, w14, w15, w16, w17, w18, w19, w20, w21, w22, w23⟩
def LRay.ks : List LK := [.f, .f, .f, .f, .f, .f, .f, .f, .f, .f, .f, .f]
def LRay.wf (s : LRay) : Prop := s.o.p0.lo < 18446744073709551616 ∧ s.o.p0.hi < 18446744073709551616 ∧ s.o.p1.lo < 18446744073709551616 ∧ s.o.p1.hi < 18446744073709551616 ∧ s.o.p2.lo < 18446744073709551616 ∧ s.o.p2.hi < 18446744073709551616 ∧ s.d.p0.lo < 18446744073709551616 ∧ s.d.p0.hi < 18446744073709551616 ∧ s.d.p1.lo < 18446744073709551616 ∧ s.d.p1.hi < 18446744073709551616 ∧ s.d.p2.lo < 18446744073709551616 ∧ s.d.p2.hi < 18446744073709551616
theorem LRay.open {l : List Value} (h : Leafs LRay.ks l) : ∃ s : LRay, (.agg ⟨l⟩ : Value) = s.val ∧ s.wf := by
  unfold LRay.ks at h
  rcases h with _ | ⟨h0, h⟩
  obtain ⟨x0, rfl, w0⟩ := h0
  rcases h with _ | ⟨h1, h⟩
  obtain ⟨x1, rfl, w1⟩ := h1
  rcases h with _ | ⟨h2, h⟩
  obtain ⟨x2, rfl, w2⟩ := h2
  rcases h with _ | ⟨h3, h⟩
  obtain ⟨x3, rfl, w3⟩ := h3
  rcases h with _ | ⟨h4, h⟩
  obtain ⟨x4, rfl, w4⟩ := h4
  rcases h with _ | ⟨h5, h⟩
  obtain ⟨x5, rfl, w5⟩ := h5
  rcases h with _ | ⟨h6, h⟩
  obtain ⟨x6, rfl, w6⟩ := h6
  rcases h with _ | ⟨h7, h⟩
  obtain ⟨x7, rfl, w7⟩ := h7
  rcases h with _ | ⟨h8, h⟩
  obtain ⟨x8, rfl, w8⟩ := h8
  rcases h with _ | ⟨h9, h⟩
  obtain ⟨x9, rfl, w9⟩ := h9
  rcases h with _ | ⟨h10, h⟩
  obtain ⟨x10, rfl, w10⟩ := h10
  rcases h with _ | ⟨h11, h⟩
  obtain ⟨x11, rfl, w11⟩ := h11
  cases h
  exact ⟨⟨⟨⟨x0, x1⟩, ⟨x2, x3⟩, ⟨x4, x5⟩⟩, ⟨⟨x6, x7⟩, ⟨x8, x9⟩, ⟨x10, x11⟩⟩⟩, rfl, w0, w1, w2, w3, w4, w5, w6, w7, w8, w9, w10, w11⟩
def LShape.ks : List LK := [.i .i64, .f, .f, .f, .f, .f, .f, .f, .f, .f, .f, .f, .f, .f, .f, .f, .f, .f, .f, .f, .f]
def LShape.wf (s : LShape) : Prop := (IntKind.i64.min ≤ s.kind ∧ s.kind ≤ IntKind.i64.max) ∧ s.p.p0.p0.lo < 18446744073709551616 ∧ s.p.p0.p0.hi < 18446744073709551616 ∧ s.p.p0.p1.lo < 18446744073709551616 ∧ s.p.p0.p1.hi < 18446744073709551616 ∧ s.p.p0.p2.lo < 18446744073709551616 ∧ s.p.p0.p2.hi < 18446744073709551616 ∧ s.p.p1.p0.lo < 18446744073709551616 ∧ s.p.p1.p0.hi < 18446744073709551616 ∧ s.p.p1.p1.lo < 18446744073709551616 ∧ s.p.p1.p1.hi < 18446744073709551616 ∧ s.p.p1.p2.lo < 18446744073709551616 ∧ s.p.p1.p2.hi < 18446744073709551616 ∧ s.p.p2.p0.lo < 18446744073709551616 ∧ s.p.p2.p0.hi < 18446744073709551616 ∧ s.p.p2.p1.lo < 18446744073709551616 ∧ s.p.p2.p1.hi < 18446744073709551616 ∧ s.p.p2.p2.lo < 18446744073709551616 ∧ s.p.p2.p2.hi < 18446744073709551616 ∧ s.r.lo < 18446744073709551616 ∧ s.r.hi < 18446744073709551616
theorem LShape.open {l : List Value} (h : Leafs LShape.ks l) : ∃ s : LShape, (.agg ⟨l⟩ : Value) = s.val ∧ s.wf := by
  unfold LShape.ks at h
  rcases h with _ | ⟨h0, h⟩
  obtain ⟨x0, rfl, w0⟩ := h0
  rcases h with _ | ⟨h1, h⟩
  obtain ⟨x1, rfl, w1⟩ := h1
  rcases h with _ | ⟨h2, h⟩
  obtain ⟨x2, rfl, w2⟩ := h2
  rcases h with _ | ⟨h3, h⟩
  obtain ⟨x3, rfl, w3⟩ := h3
  rcases h with _ | ⟨h4, h⟩
  obtain ⟨x4, rfl, w4⟩ := h4
  rcases h with _ | ⟨h5, h⟩
  obtain ⟨x5, rfl, w5⟩ := h5
  rcases h with _ | ⟨h6, h⟩
  obtain ⟨x6, rfl, w6⟩ := h6
  rcases h with _ | ⟨h7, h⟩
  obtain ⟨x7, rfl, w7⟩ := h7
  rcases h with _ | ⟨h8, h⟩
  obtain ⟨x8, rfl, w8⟩ := h8
  rcases h with _ | ⟨h9, h⟩
  obtain ⟨x9, rfl, w9⟩ := h9
  rcases h with _ | ⟨h10, h⟩
  obtain ⟨x10, rfl, w10⟩ := h10
  rcases h with _ | ⟨h11, h⟩
  obtain ⟨x11, rfl, w11⟩ := h11
  rcases h with _ | ⟨h12, h⟩
  obtain ⟨x12, rfl, w12⟩ := h12
  rcases h with _ | ⟨h13, h⟩
  obtain ⟨x13, rfl, w13⟩ := h13
  rcases h with _ | ⟨h14, h⟩
  obtain ⟨x14, rfl, w14⟩ := h14
  rcases h with _ | ⟨h15, h⟩
  obtain ⟨x15, rfl, w15⟩ := h15
  rcases h with _ | ⟨h16, h⟩
  obtain ⟨x16, rfl, w16⟩ := h16
  rcases h with _ | ⟨h17, h⟩
  obtain ⟨x17, rfl, w17⟩ := h17
  rcases h with _ | ⟨h18, h⟩
  obtain ⟨x18, rfl, w18⟩ := h18
  rcases h with _ | ⟨h19, h⟩
  obtain ⟨x19, rfl, w19⟩ := h19
  rcases h with _ | ⟨h20, h⟩
  obtain ⟨x20, rfl, w20⟩ := h20
  cases h
  exact ⟨⟨x0, ⟨⟨⟨x1, x2⟩, ⟨x3, x4⟩, ⟨x5, x6⟩⟩, ⟨⟨x7, x8⟩, ⟨x9, x10⟩, ⟨x11, x12⟩⟩, ⟨⟨x13, x14⟩, ⟨x15, x16⟩, ⟨x17, x18⟩⟩⟩, ⟨x19, x20⟩⟩, rfl, w0, w1, w2, w3, w4, w5, w6, w7, w8, w9, w10, w11, w12, w13, w14, w15, w16, w17, w18, w19, w20⟩
def LTriple.ks : List LK := [.f, .f, .f]
def LTriple.wf (s : LTriple) : Prop := s.p0 < 18446744073709551616 ∧ s.p1 < 18446744073709551616 ∧ s.p2 < 18446744073709551616
theorem LTriple.open {l : List Value} (h : Leafs LTriple.ks l) : ∃ s : LTriple, (.agg ⟨l⟩ : Value) = s.val ∧ s.wf := by
  unfold LTriple.ks at h
  rcases h with _ | ⟨h0, h⟩
  obtain ⟨x0, rfl, w0⟩ := h0
  rcases h with _ | ⟨h1, h⟩
  obtain ⟨x1, rfl, w1⟩ := h1
  rcases h with _ | ⟨h2, h⟩
  obtain ⟨x2, rfl, w2⟩ := h2
  cases h
  exact ⟨⟨x0, x1, x2⟩, rfl, w0, w1, w2⟩
def str0 : ByteArray := ⟨#[0, 1, 2, 2, 3, 3, 3, 3, 4, 4, 4, 4, 4, 4, 4, 4, 5, 5, 5, 5, 5, 5, 5, 5, 5, 5, 5, 5, 5, 5, 5, 5, 6, 6, 6, 6, 6, 6, 6, 6, 6, 6, 6, 6, 6, 6, 6, 6, 6, 6, 6, 6, 6, 6, 6, 6, 6, 6, 6, 6, 6, 6, 6, 6, 7, 7, 7, 7, 7, 7, 7, 7, 7, 7, 7, 7, 7, 7, 7, 7, 7, 7, 7, 7, 7, 7, 7, 7, 7, 7, 7, 7, 7, 7, 7, 7, 7, 7, 7, 7, 7, 7, 7, 7, 7, 7, 7, 7, 7, 7, 7, 7, 7, 7, 7, 7, 7, 7, 7, 7, 7, 7, 7, 7, 7, 7, 7, 7, 8, 8, 8, 8, 8, 8, 8, 8, 8, 8, 8, 8, 8, 8, 8, 8, 8, 8, 8, 8, 8, 8, 8, 8, 8, 8, 8, 8, 8, 8, 8, 8, 8, 8, 8, 8, 8, 8, 8, 8, 8, 8, 8, 8, 8, 8, 8, 8, 8, 8, 8, 8, 8, 8, 8, 8, 8, 8, 8, 8, 8, 8, 8, 8, 8, 8, 8, 8, 8, 8, 8, 8, 8, 8, 8, 8, 8, 8, 8, 8, 8, 8, 8, 8, 8, 8, 8, 8, 8, 8, 8, 8, 8, 8, 8, 8, 8, 8, 8, 8, 8, 8, 8, 8, 8, 8, 8, 8, 8, 8, 8, 8, 8, 8, 8, 8, 8, 8, 8, 8, 8, 8, 8, 8, 8, 8, 8, 8]⟩
def f64from (n : Int) : Nat := n.toNat
theorem f64from.call (n : Int) : PureOK Try.prog 94 [.int .u64 n] (.float .f64 (f64from n)) := pureOK_extern (P := Try.prog) rfl rfl fun w => by kernel_rfl
def f64from.ph (c94 : Int → Nat) : Ph := fun args => match args with
  | [.int .u64 a0_] => some (true, (.float .f64 (c94 a0_)))
  | _ => none
theorem f64from.phOK : PhOK Try.prog 94 (f64from.ph (f64from)) := ⟨by
  intro args v h
  unfold f64from.ph at h
  split at h
  · rename_i a0_
    simp only [Option.some.injEq, Prod.mk.injEq, true_and] at h
    subst h
    exact ⟨rfl, rfl, f64from.call a0_⟩
  · cases h⟩
def f64bits (x : Nat) : Int := (x : Int)
def f64bits.ok (x : Nat) : Bool := !Nat.beq x nanW
theorem f64bits.call (x : Nat) (h : f64bits.ok x = true) : PureOK Try.prog 95 [.float .f64 x] (.int .u64 (f64bits x)) := pureOK_extern (P := Try.prog) (by simp only [List.all_cons, List.all_nil, Bool.and_true]; exact h) rfl fun w => by kernel_rfl
def f64bits.ph (c95 : Nat → Int) (c95ok : Nat → Bool) : Ph := fun args => match args with
  | [.float .f64 a0_] => some (c95ok a0_, (.int .u64 (c95 a0_)))
  | _ => none
theorem f64bits.phOK : PhOK Try.prog 95 (f64bits.ph (f64bits) (f64bits.ok)) := ⟨by
  intro args v h
  unfold f64bits.ph at h
  split at h
  · rename_i a0_
    simp only [Option.some.injEq, Prod.mk.injEq] at h
    obtain ⟨hok, rfl⟩ := h
    exact ⟨rfl, rfl, f64bits.call a0_ hok⟩
  · cases h⟩
def add64 (x y c : Int) : Int × Int := (Int.ofNat ((x.toNat + y.toNat + c.toNat) % Extern.MathBitsCarry.m64), Int.ofNat ((x.toNat + y.toNat + c.toNat) / Extern.MathBitsCarry.m64))
def add64.ok (_ _ c : Int) : Bool := decide (c ≤ 1)
def add64.run : Array Value → Sem Value := fun args => do
  let (x, y, c) ← Extern.MathBitsCarry.three "Add64" args
  pure (Extern.MathBitsCarry.pair ((x + y + c) % Extern.MathBitsCarry.m64) ((x + y + c) / Extern.MathBitsCarry.m64))
theorem add64.at (x y c : Int) (w : World) : (callFunc 118 ⟨[.int .u64 x, .int .u64 y, .int .u64 c]⟩).run Try.prog w = ((add64.run #[.int .u64 x, .int .u64 y, .int .u64 c] >>= fun v => pure (Next.value v)).run Try.prog w) := by kernel_rfl
theorem add64.call (x y c : Int) (h : add64.ok x y c = true) : PureOK Try.prog 118 [.int .u64 x, .int .u64 y, .int .u64 c] (.tuple ⟨[.int .u64 (add64 x y c).1, .int .u64 (add64 x y c).2]⟩) :=
  pureOK_extern (P := Try.prog) rfl rfl fun w => (add64.at x y c w).trans (by
    simp only [add64.run, Sem.run_bind, three3 _ x y c (of_decide_eq_true h), Result.andThen_ok, Sem.run_pure]; rfl)
def add64.ph (c118 : Int → Int → Int → Int × Int) (c118ok : Int → Int → Int → Bool) : Ph := fun args => match args with
  | [.int .u64 a0_, .int .u64 a1_, .int .u64 a2_] => some (c118ok a0_ a1_ a2_, .tuple ⟨[(.int .u64 ((c118 a0_ a1_ a2_).1)), (.int .u64 ((c118 a0_ a1_ a2_).2))]⟩)
  | _ => none
theorem add64.phOK : PhOK Try.prog 118 (add64.ph (add64) (add64.ok)) := ⟨by
  intro args v h
  unfold add64.ph at h
  split at h
  · rename_i a0_ a1_ a2_
    simp only [Option.some.injEq, Prod.mk.injEq] at h
    obtain ⟨hok, rfl⟩ := h
    exact ⟨rfl, rfl, add64.call a0_ a1_ a2_ hok⟩
  · cases h⟩
def sub64 (x y c : Int) : Int × Int := (Int.ofNat ((x.toNat + Extern.MathBitsCarry.m64 - y.toNat - c.toNat) % Extern.MathBitsCarry.m64), Int.ofNat (if x.toNat < y.toNat + c.toNat then 1 else 0))
def sub64.ok (_ _ c : Int) : Bool := decide (c ≤ 1)
def sub64.run : Array Value → Sem Value := fun args => do
  let (x, y, b) ← Extern.MathBitsCarry.three "Sub64" args
  pure (Extern.MathBitsCarry.pair ((x + Extern.MathBitsCarry.m64 - y - b) % Extern.MathBitsCarry.m64) (if x < y + b then 1 else 0))
theorem sub64.at (x y c : Int) (w : World) : (callFunc 119 ⟨[.int .u64 x, .int .u64 y, .int .u64 c]⟩).run Try.prog w = ((sub64.run #[.int .u64 x, .int .u64 y, .int .u64 c] >>= fun v => pure (Next.value v)).run Try.prog w) := by kernel_rfl
theorem sub64.call (x y c : Int) (h : sub64.ok x y c = true) : PureOK Try.prog 119 [.int .u64 x, .int .u64 y, .int .u64 c] (.tuple ⟨[.int .u64 (sub64 x y c).1, .int .u64 (sub64 x y c).2]⟩) :=
  pureOK_extern (P := Try.prog) rfl rfl fun w => (sub64.at x y c w).trans (by
    simp only [sub64.run, Sem.run_bind, three3 _ x y c (of_decide_eq_true h), Result.andThen_ok, Sem.run_pure]; rfl)
def sub64.ph (c119 : Int → Int → Int → Int × Int) (c119ok : Int → Int → Int → Bool) : Ph := fun args => match args with
  | [.int .u64 a0_, .int .u64 a1_, .int .u64 a2_] => some (c119ok a0_ a1_ a2_, .tuple ⟨[(.int .u64 ((c119 a0_ a1_ a2_).1)), (.int .u64 ((c119 a0_ a1_ a2_).2))]⟩)
  | _ => none
theorem sub64.phOK : PhOK Try.prog 119 (sub64.ph (sub64) (sub64.ok)) := ⟨by
  intro args v h
  unfold sub64.ph at h
  split at h
  · rename_i a0_ a1_ a2_
    simp only [Option.some.injEq, Prod.mk.injEq] at h
    obtain ⟨hok, rfl⟩ := h
    exact ⟨rfl, rfl, sub64.call a0_ a1_ a2_ hok⟩
  · cases h⟩
end Go.Lan
