/- Xor of two bytes is a byte. -/
import Derived.Test.YteejkkidnohcfaaDoorD1
namespace Go.Proofs.YteejkkidnohcfaaDoor
open Go Go.RowKit Go.Maps

theorem xor_lo {x : Int} (y : UInt8) (h0 : 0 ≤ x) (h1 : x < 256) : ∃ z : UInt8, bits BinOp.xor IntKind.u8 (y.toNat : Int) x = (z.toNat : Int) := by
  have : ∀ a b : Fin 256, 0 ≤ bits BinOp.xor IntKind.u8 (a.val : Int) (b.val : Int) ∧ bits BinOp.xor IntKind.u8 (a.val : Int) (b.val : Int) < 256 := by decide +kernel
  have h := this ⟨y.toNat, y.toNat_lt⟩ ⟨x.toNat, by omega⟩
  simp only at h
  rw [Int.toNat_of_nonneg h0] at h
  refine ⟨(bits BinOp.xor IntKind.u8 (y.toNat : Int) x).toNat.toUInt8, ?_⟩
  have : (bits BinOp.xor IntKind.u8 (y.toNat : Int) x).toNat.toUInt8.toNat = (bits BinOp.xor IntKind.u8 (y.toNat : Int) x).toNat := by
    generalize bits BinOp.xor IntKind.u8 (y.toNat : Int) x = q at h
    simp [Nat.toUInt8]; omega
  rw [this]; omega

end Go.Proofs.YteejkkidnohcfaaDoor
