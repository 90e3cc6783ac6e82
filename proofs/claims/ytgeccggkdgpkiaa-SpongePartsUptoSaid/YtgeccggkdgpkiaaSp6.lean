/- Unlike texts are filled up to unlike ones. -/
import Derived.Test.YtgeccggkdgpkiaaSp5
import Derived.Test.YtgeccggkdgpkiaaSl1
namespace Go.Proofs.Ytgeccggkdgpkiaa
open Go.RowKit Rg
namespace Lf
theorem zeros_one : ∀ (i j : Nat) {x y : List UInt8}, List.replicate i 0 ++ 1 :: x = List.replicate j 0 ++ 1 :: y → x = y
  | 0, 0, _, _, h => by simpa using h
  | 0, j + 1, _, _, h => by simp [List.replicate_succ] at h
  | i + 1, 0, _, _, h => by simp [List.replicate_succ] at h
  | i + 1, j + 1, _, _, h => zeros_one i j (by simpa [List.replicate_succ] using h)
theorem padB_inj {a b : List UInt8} (h : padB a = padB b) : a = b := by
  unfold padB padZ at h
  have h1 := congrArg List.reverse h
  simp only [List.reverse_append, List.reverse_cons, List.reverse_nil, List.nil_append, List.reverse_replicate, List.singleton_append, List.cons_append, List.cons.injEq, true_and, List.append_assoc] at h1
  have := zeros_one _ _ h1
  simpa using congrArg List.reverse this
theorem padB_take (a : List UInt8) : (padB a).take a.length = a := by
  unfold padB padZ
  rw [List.append_assoc, List.append_assoc, List.take_left]
namespace Sp
set_option maxHeartbeats 1000000 in
theorem SpongeApart (a b : List UInt8) (ha : a.length < 1073741000) (hb : b.length < 1073741000) : LF Try.prog 4 [.s none (a.map bK), .s none (b.map bK)] (fun _ => .k (.bool true)) none := by
  have c1 := alive3
  have c2 := Pad
  have hp := padB_len a
  have hq := padB_len b
  have c3 := Sl1.Equal ((padB a).take a.length) a (by rw [padB_take]; omega) (by omega)
  rw [show decide ((padB a).take a.length = a) = true from by rw [padB_take]; simp] at c3
  have c4 := Sl1.Equal a b (by omega) (by omega)
  have c5 := Sl1.Equal (padB a) (padB b) (by omega) (by omega)
  by_cases h : a = b
  · rw [show decide (a = b) = true from by simp [h]] at c4
    rw [show decide (padB a = padB b) = true from by simp [h]] at c5
    clear h
    refine LFx.mk' tt Try.func4 rfl rfl rfl (by kernel_rfl) rfl rfl fun F => ?_
    exact wk trueW trueW trueW
  · rw [show decide (a = b) = false from by simp [h]] at c4
    rw [show decide (padB a = padB b) = false from by simp; exact fun e => h (padB_inj e)] at c5
    clear h
    refine LFx.mk' tt Try.func4 rfl rfl rfl (by kernel_rfl) rfl rfl fun F => ?_
    exact wk trueW trueW trueW
end Sp
end Lf
end Go.Proofs.Ytgeccggkdgpkiaa
