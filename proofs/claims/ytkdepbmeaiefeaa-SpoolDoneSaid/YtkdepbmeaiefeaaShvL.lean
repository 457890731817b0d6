/- Words: small facts. -/
import Derived.Test.YtkdepbmeaiefeaaShvY12
import Derived.Laws.BitsLemmas
namespace Go.Proofs.Ytkdepbmeaiefeaa.Shv
set_option linter.all false
open Go

theorem addI64 {a b : Int} (h1 : -9223372036854775808 ≤ a + b) (h2 : a + b ≤ 9223372036854775807) : addI .i64 a b = a + b := by
  unfold addI; rw [IntKind.wrap_i64]; omega
theorem subI64 {a b : Int} (h1 : -9223372036854775808 ≤ a - b) (h2 : a - b ≤ 9223372036854775807) : subI .i64 a b = a - b := by
  unfold subI; rw [IntKind.wrap_i64]; omega
theorem wrp64 {a : Int} (h1 : -9223372036854775808 ≤ a) (h2 : a ≤ 9223372036854775807) : wrp .i64 a = a := by
  unfold wrp; rw [IntKind.wrap_i64]; omega
theorem wrp32 {a : Int} (h1 : -2147483648 ≤ a) (h2 : a ≤ 2147483647) : wrp .i32 a = a := by
  unfold wrp; rw [IntKind.wrap_i32]; omega
theorem inR_nat {k n : Nat} (h : k < n) : inR (k : Int) n = true := by
  unfold inR; simp [h]
theorem iteSome {t a : Bool} : (if t = true then some a else some false) = some (t && a) := by cases t <;> rfl
theorem room_small {n : Nat} (h : n ≤ 100000) : room 32 n = true := by
  unfold room capBytes sliceMax
  simp only [Bool.and_eq_true, decide_eq_true_eq]
  omega
theorem toNat_nat (k : Nat) : (k : Int).toNat = k := Int.toNat_natCast k
end Go.Proofs.Ytkdepbmeaiefeaa.Shv
