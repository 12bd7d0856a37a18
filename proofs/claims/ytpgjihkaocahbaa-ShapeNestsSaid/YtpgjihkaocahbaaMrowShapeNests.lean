/- ShapeNests, over numbers. -/
import Derived.Test.YtpgjihkaocahbaaMz
namespace Go.Lan

theorem wf_ray {r : LRay} (h : r.wf) : WRay r := by
  obtain ⟨a0, a1, a2, a3, a4, a5, a6, a7, a8, a9, a10, a11⟩ := h
  exact ⟨⟨⟨a0, a1⟩, ⟨a2, a3⟩, ⟨a4, a5⟩⟩, ⟨⟨a6, a7⟩, ⟨a8, a9⟩, ⟨a10, a11⟩⟩⟩
theorem wf_shape {s : LShape} (h : s.wf) : WShape s := by
  obtain ⟨_, a0, a1, a2, a3, a4, a5, a6, a7, a8, a9, a10, a11, a12, a13, a14, a15, a16, a17, a18, a19⟩ := h
  exact ⟨⟨⟨a0, a1⟩, ⟨a2, a3⟩, ⟨a4, a5⟩⟩, ⟨⟨a6, a7⟩, ⟨a8, a9⟩, ⟨a10, a11⟩⟩, ⟨⟨a12, a13⟩, ⟨a14, a15⟩, ⟨a16, a17⟩⟩, ⟨a18, a19⟩⟩
theorem plain_ShapeNests (s : LShape) (r : LRay) (k : LA4A6F) (hs : s.wf) (hr : r.wf) (_ : k.wf) : lanternlaw10_ShapeNests M0 s r k = true ∧ lanternlaw10_ShapeNests.ok M0 s r k = true := nests_true (wf_shape hs) (wf_ray hr)

end Go.Lan
