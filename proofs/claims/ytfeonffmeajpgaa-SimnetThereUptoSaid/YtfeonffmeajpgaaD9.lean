import Derived.Test.YtfeonffmeajpgaaD8
set_option linter.unusedSimpArgs false
set_option linter.unusedVariables false
namespace Go.Proofs.Ytfeonffmeajpgaa
open Go.SL
set_option maxRecDepth 10000

section
variable {ω : Om} {I : Imm} {L : LH} {K : Value → M}

theorem vrG_lt : ∀ (f k sc acc : Nat) (s : RS), acc < sc → (vrG f k sc acc s).1 < sc * 128 ^ f ∨ (vrG f k sc acc s).1 = 0
  | 0, _, _, _, _, _ => .inr rfl
  | f + 1, k, sc, acc, s, h => by
    have hm : (byteG s).1 % 128 < 128 := Nat.mod_lt _ (by omega)
    have hlt : acc + (byteG s).1 % 128 * sc < sc * 128 := by
      have : (byteG s).1 % 128 * sc ≤ 127 * sc := Nat.mul_le_mul_right _ (by omega)
      omega
    simp only [vrG]
    split
    · left
      simp only
      have h1 : sc * 128 ≤ sc * 128 ^ (f + 1) := by
        rw [Nat.pow_succ]
        exact Nat.mul_le_mul_left _ (Nat.le_mul_of_pos_left _ (Nat.pos_of_ne_zero (by simp)))
      omega
    · have := vrG_lt f (k + 1) (sc * 128) (acc + (byteG s).1 % 128 * sc) (byteG s).2 hlt
      rw [Nat.pow_succ, show sc * (128 ^ f * 128) = sc * 128 * 128 ^ f from by rw [Nat.mul_assoc, Nat.mul_comm (128 ^ f)]]
      exact this
theorem varG_lt (s : RS) : (varG s).1 < 72057594037927936 := by
  rcases vrG_lt 8 0 1 0 s (by omega) with h | h
  · simpa [varG] using h
  · unfold varG; omega

end
end Go.Proofs.Ytfeonffmeajpgaa
