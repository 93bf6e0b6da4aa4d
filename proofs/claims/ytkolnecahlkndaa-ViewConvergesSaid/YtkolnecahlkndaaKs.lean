/-
  Strings of bytes, as values and as a map's keys.
-/
import Derived.Test.YtkolnecahlkndaaProg
import Derived.Test.YtkolnecahlkndaaRg
namespace Go.Proofs.Ytkolnecahlkndaa
open Go.RowKit
set_option linter.unusedVariables false
set_option linter.unusedSimpArgs false

/-- A string of bytes, as a value. -/
def str (k : List UInt8) : Value := .string ⟨k.toArray⟩
theorem str_inj {a b : List UInt8} (h : str a = str b) : a = b := by
  simp only [str, Value.string.injEq, ByteArray.mk.injEq] at h
  simpa using congrArg Array.toList h
theorem ky_str : Ky Try.prog 9 str where
  kind := ⟨.string, Try.underlying9, fun a => trivial, fun a b => by simp [str, Instr.sameNow, str_beq]⟩
  bits := fun a => by
    have := str_beq a a
    simp [str, Instr.sameBits, this]
def ptr (b : Nat) : Value := .pointer (some ⟨b, 0, none⟩)
end Go.Proofs.Ytkolnecahlkndaa
