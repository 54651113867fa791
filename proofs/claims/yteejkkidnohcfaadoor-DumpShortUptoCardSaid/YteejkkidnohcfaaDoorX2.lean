/- Xor with a byte that is not nought changes a byte. -/
import Derived.Test.YteejkkidnohcfaaDoorD1
namespace Go.Proofs.YteejkkidnohcfaaDoor
open Go Go.RowKit Go.Maps

theorem xor_ne {x : Int} (y : UInt8) (h0 : 0 ≤ x) (h1 : x < 256) (hx : x ≠ 0) : bits BinOp.xor IntKind.u8 (y.toNat : Int) x ≠ (y.toNat : Int) := by
  have : ∀ a b : Fin 256, b.val ≠ 0 → bits BinOp.xor IntKind.u8 (a.val : Int) (b.val : Int) ≠ (a.val : Int) := by decide +kernel
  have h := this ⟨y.toNat, y.toNat_lt⟩ ⟨x.toNat, by omega⟩ (by show x.toNat ≠ 0; omega)
  simp only at h
  rwa [Int.toNat_of_nonneg h0] at h
end Go.Proofs.YteejkkidnohcfaaDoor
