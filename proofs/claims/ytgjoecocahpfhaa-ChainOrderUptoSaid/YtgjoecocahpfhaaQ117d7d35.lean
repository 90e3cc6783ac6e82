/- A part of the proof: texts joined. -/
import Derived.Test.YtgjoecocahpfhaaProg
import Derived.Shelf.Bits.Mul64
import Derived.Test.YtgjoecocahpfhaaQ105d23e3
namespace Go.Proofs.Ytgjoecocahpfhaa
open Go.RowKit Rg
set_option linter.unusedVariables false
set_option maxRecDepth 100000
namespace Lf
namespace Sr
theorem turnUp (x : UInt64) (k : Nat) (hk : k < 64) : LF Try.prog 79 [qK x, .k (.int .i64 (k : Int))] (fun _ => qK (rotl x k)) none := by
  have h0 := x.toNat_lt
  unfold qK
  refine LFx.mk' tt Try.func79 rfl rfl rfl (by kernel_rfl) rfl rfl fun F => ?_
  refine wk ?_ trueW trueW
  refine LC.loop2 (fun i X => [(0, uK X), (5, .k (.int .i64 ((k : Nat) : Int))), (6, .k (.int .i64 ((i : Nat) : Int)))]) (fun i X => []) (fun i X => i ≤ k ∧ X = (rotl x i).toNat) ((k - ·)) (0) (x.toNat) ⟨by omega, (rotl_zero x).symm⟩ ⟨rfl, rfl, rfl, trivial⟩ trivial rfl rfW rfW ?_
  rintro i X ⟨hi, hX⟩
  have hX' : X < 18446744073709551616 := by rw [hX]; exact (rotl x i).toNat_lt
  by_cases h : i < k
  · have hr := rotl_succ x (k := i) (by omega)
    rw [← hX] at hr
    have w1 : IntKind.u64.wrap ((X : Int) * 2) = ((X * 2 % 2 ^ 64 : Nat) : Int) := mul_u64m
    have hlt : X * 2 % 2 ^ 64 + X / 9223372036854775808 < 18446744073709551616 := by
      have : X * 2 % 2 ^ 64 + X / 2 ^ 63 < 18446744073709551616 := by rw [← hr]; exact (rotl x (i + 1)).toNat_lt
      simpa using this
    have hok : i + 1 ≤ k ∧ X * 2 % 2 ^ 64 + X / 9223372036854775808 = (rotl x (i + 1)).toNat := ⟨h, by rw [hr]⟩
    have hd : X / 9223372036854775808 < 18446744073709551616 := Nat.lt_of_le_of_lt (Nat.div_le_self _ _) hX'
    clear hr hX
    generalize X * 2 % 2 ^ 64 = y at *
    exact wk trueW trueW trueW
  · obtain rfl : i = k := by omega
    subst hX
    exact wk trueW trueW trueW
theorem SMix (s : List UInt64) (hs : s.length = 8) : LF Try.prog 59 [.a (s.map qK)] (fun _ => .a ((mixQ s).map qK)) none := by
  have c1 := turnUp
  refine LFx.mk' tt Try.func59 rfl rfl rfl (by kernel_rfl) rfl rfl fun F => ?_
  refine wk ?_ trueW trueW
  refine LC.loop2 (fun r S => [(1, .p 1 0), (2, .p 2 0), (3, .sb 1 0 8 8), (4, uK (r + 1))]) (fun r S => [(1, .b (S.map qK)), (2, .b (List.replicate 8 (.k (.int .u64 0))))]) (fun r S => r ≤ 12 ∧ S = iter qround s r) ((12 - ·)) (0) (s) ⟨by omega, rfl⟩ ⟨rfl, rfl, rfl, rfl, trivial⟩ ⟨rfl, rfl, trivial⟩ rfl rfW rfW ?_
  rintro r S ⟨hr, hS⟩
  have hl : S.length = 8 := hS ▸ (iter_len qround_len s r).trans hs
  by_cases h : r < 12
  · refine wk ?_ trueW trueW
    refine LC.loop5 (fun i S2 n (_u3 : Unit) (_u4 : Unit) => [(1, .p 1 0), (2, .p 2 0), (3, .sb 1 0 8 8), (4, uK (r + 1)), (5, .k (.int .i64 ((i : Nat) : Int))), (6, .k (.int .i64 ((n : Nat) : Int)))]) (fun i S2 n (_u3 : Unit) (_u4 : Unit) => [(1, .b (S2.map qK)), (2, .b (List.replicate 8 (.k (.int .u64 0))))]) (fun i S2 n (_u3 : Unit) (_u4 : Unit) => i ≤ 8 ∧ S2 = iter qstep (qkey S r) i ∧ n = 5 * i + 3) ((8 - ·)) (0) (qkey S r) (3) () () ⟨by omega, rfl, rfl⟩ ⟨rfl, rfl, rfl, rfl, rfl, rfl, trivial⟩ ⟨rfl, rfl, trivial⟩ rfl rfW rfW ?_
    rintro i S2 n _ _ ⟨hi, hS2, hn⟩
    have hl2 : S2.length = 8 := hS2 ▸ (iter_len qstep_len _ i).trans ((qkey_len S r).trans hl)
    by_cases h2 : i < 8
    · have hok : i + 1 ≤ 8 ∧ S2.set (0 + i) (S2.getD (0 + i) default + rotl (S2.getD (0 + (i + 1) % 8) default ^^^ S2.getD (0 + (i + 5) % 8) default) n) = iter qstep (qkey S r) (i + 1) ∧ n + 5 = 5 * (i + 1) + 3 := ⟨h2, by simp only [Nat.zero_add]; rw [hS2, hn]; rfl, by omega⟩
      have w1 : IntKind.i64.wrap (((BitVec.ofInt IntKind.i64.bits ((i + 1 : Nat) : Int) &&& BitVec.ofInt IntKind.i64.bits 7).toNat : Nat) : Int) = (((i + 1) % 8 : Nat) : Int) := by
        rw [and_i64r (b := 7) (by omega) (by decide)]
        exact congrArg _ (Nat.and_two_pow_sub_one_eq_mod (n := 3) (i + 1))
      have w2 : IntKind.i64.wrap (((BitVec.ofInt IntKind.i64.bits ((i + 5 : Nat) : Int) &&& BitVec.ofInt IntKind.i64.bits 7).toNat : Nat) : Int) = (((i + 5) % 8 : Nat) : Int) := by
        rw [and_i64r (b := 7) (by omega) (by decide)]
        exact congrArg _ (Nat.and_two_pow_sub_one_eq_mod (n := 3) (i + 5))
      have m1 : (i + 1) % 8 < 8 := Nat.mod_lt _ (by decide)
      have m2 : (i + 5) % 8 < 8 := Nat.mod_lt _ (by decide)
      have m3 : n < 64 := by omega
      clear hS2 hn
      exact wk trueW trueW trueW
    · obtain rfl : i = 8 := by omega
      have hok : r + 1 ≤ 12 ∧ S2 = iter qround s (r + 1) := ⟨h, by rw [hS2, hS]; exact (show iter qround s (r + 1) = qround (iter qround s r) r from rfl).symm⟩
      clear hS2 hS
      exact wk trueW trueW trueW
  · obtain rfl : r = 12 := by omega
    have hv : mixQ s = S := by rw [hS, mixQ_eq]
    rw [hv]
    clear hv hS
    exact wk trueW trueW trueW
end Sr
end Lf
open Go.RowKit Rg
set_option linter.unusedVariables false
set_option maxRecDepth 100000
namespace Lf
namespace Sr
def blocks (b : List UInt8) : Nat := b.length / 32 + 1 + (if b.length % 32 = 31 then 1 else 0)
theorem pad_blocks (b : List UInt8) : (padB b).length = 32 * blocks b := by
  rw [padB_len]
  unfold blocks
  split <;> omega
theorem pad_set (b : List UInt8) : ((put (List.replicate (32 * blocks b) 0) 0 b).set b.length (UInt8.ofNat 1)).set (32 * blocks b - 1) (UInt8.ofNat 128) = padB b := by
  have hl : b.length + 2 ≤ 32 * blocks b := by unfold blocks; split <;> omega
  have hp := pad_blocks b
  rw [padB_len] at hp
  have e5 : padB b = b ++ [1] ++ List.replicate (31 - (b.length + 1) % 32) 0 ++ [128] := by unfold padB padZ; rfl
  rw [e5]
  generalize 31 - (b.length + 1) % 32 = z at *
  have e1 : put (List.replicate (32 * blocks b) 0) 0 b = b ++ List.replicate (32 * blocks b - b.length) 0 := by
    unfold put
    rw [List.take_zero, List.nil_append, Nat.zero_add, List.drop_replicate]
  have e2 : 32 * blocks b - b.length = z + 1 + 1 := by omega
  rw [e1, e2, List.replicate_succ, List.set_append_right _ _ (Nat.le_refl _), Nat.sub_self, List.set_cons_zero]
  have e3 : b ++ (UInt8.ofNat 1) :: List.replicate (z + 1) 0 = (b ++ [1] ++ List.replicate z 0) ++ [0] := by
    rw [List.replicate_succ']
    simp
  rw [e3, List.set_append_right _ _ (by simp; omega)]
  have e4 : 32 * blocks b - 1 - (b ++ [1] ++ List.replicate z 0).length = 0 := by simp; omega
  rw [e4]
  rfl
theorem SPad (b : List UInt8) (hb : b.length < 1073741824) : LF Try.prog 58 [.s none (b.map bK)] (fun _ => .s none ((padB b).map bK)) none := by
  have hp := pad_set b
  have hfz : FrzAt 2 17 := ⟨⟩
  have hl : b.length + 2 ≤ 32 * blocks b := by unfold blocks; split <;> omega
  have hm : 32 * blocks b ≤ b.length + 64 := by unfold blocks; split <;> omega
  have q1 : (put (List.replicate (32 * blocks b) (0 : UInt8)) 0 b).length = 32 * blocks b := by rw [put_len (by simp; omega)]; simp
  have q0 : (List.replicate (32 * blocks b) (0 : UInt8)).length = 32 * blocks b := List.length_replicate
  by_cases h : b.length % 32 = 31
  · have e : 32 * blocks b = (b.length / 32 + 1) * 32 + 32 := by unfold blocks; rw [if_pos h]; omega
    rw [e] at hp hl hm q1 q0
    have q2 : (((put (List.replicate ((b.length / 32 + 1) * 32 + 32) (0 : UInt8)) 0 b).set b.length (UInt8.ofNat 1)).set ((b.length / 32 + 1) * 32 + 32 - 1) (UInt8.ofNat 128)).length = (b.length / 32 + 1) * 32 + 32 := by rw [List.length_set, List.length_set]; exact q1
    rw [← hp]
    clear hp e
    refine LFx.mk' tt Try.func58 rfl rfl rfl (by kernel_rfl) rfl rfl fun F => ?_
    exact wk trueW trueW trueW
  · have e : 32 * blocks b = (b.length / 32 + 1) * 32 := by unfold blocks; rw [if_neg h]; omega
    rw [e] at hp hl hm q1 q0
    have q2 : (((put (List.replicate ((b.length / 32 + 1) * 32) (0 : UInt8)) 0 b).set b.length (UInt8.ofNat 1)).set ((b.length / 32 + 1) * 32 - 1) (UInt8.ofNat 128)).length = (b.length / 32 + 1) * 32 := by rw [List.length_set, List.length_set]; exact q1
    rw [← hp]
    clear hp e
    refine LFx.mk' tt Try.func58 rfl rfl rfl (by kernel_rfl) rfl rfl fun F => ?_
    exact wk trueW trueW trueW
end Sr
end Lf
open Go.RowKit Rg
set_option linter.unusedVariables false
set_option maxRecDepth 100000
namespace Lf
namespace Sr
theorem stR_len (p : List UInt8) (i : Nat) : (stR p i).length = 8 := by unfold stR; rw [iter_len (blkQ_len p)]; rfl
theorem sum_ref (b : List UInt8) : iter (outStep (stR (padB b) (blocks b))) (List.replicate 32 0) 32 = sumB b := (sumB_ref b (pad_blocks b)).symm
set_option maxHeartbeats 4000000 in
theorem SSum (b : List UInt8) (hb : b.length < 1073741824) : LF Try.prog 39 [.s none (b.map bK)] (fun _ => .a ((sumB b).map bK)) none := by
  have c1 := SPad b hb
  have hp := pad_blocks b
  have hs := fun _ : Unit => sum_ref b
  have hm : 32 * blocks b ≤ b.length + 64 := by unfold blocks; split <;> omega
  generalize blocks b = m at *
  generalize padB b = p at *
  generalize sumB b = out at *
  have c2 := SMix
  refine LFx.mk' tt Try.func39 rfl rfl rfl (by kernel_rfl) rfl rfl fun F => ?_
  refine wk ?_ trueW trueW
  refine LC.loop5 (fun i S a (_u3 : Unit) (_u4 : Unit) => [(2, .p 2 0), (3, .p 3 0), (4, .s none (p.map bK)), (5, .k (.int .i64 ((a : Nat) : Int)))]) (fun i S a (_u3 : Unit) (_u4 : Unit) => [(2, .b (List.replicate 32 (.k (.int .u8 0)))), (3, .b (S.map qK))]) (fun i S a (_u3 : Unit) (_u4 : Unit) => i ≤ m ∧ S = stR p i ∧ a = 32 * i) ((m - ·)) (0) (List.replicate 8 0) (0) () () ⟨by omega, rfl, rfl⟩ ⟨rfl, rfl, rfl, rfl, trivial⟩ ⟨rfl, rfl, trivial⟩ rfl rfW rfW ?_
  rintro i S a _ _ ⟨hi, hS, ha⟩
  have hl : S.length = 8 := by rw [hS]; exact stR_len p i
  by_cases h : i < m
  · refine wk ?_ trueW trueW
    refine LC.loop2 (fun k S2 => [(2, .p 2 0), (3, .p 3 0), (4, .s none (p.map bK)), (5, .k (.int .i64 ((a : Nat) : Int))), (17, .k (.int .i64 ((k : Nat) : Int)))]) (fun k S2 => [(2, .b (List.replicate 32 (.k (.int .u8 0)))), (3, .b (S2.map qK))]) (fun k S2 => k ≤ 32 ∧ S2 = iter (absB p a) S k) ((32 - ·)) (0) (S) ⟨by omega, rfl⟩ ⟨rfl, rfl, rfl, rfl, rfl, trivial⟩ ⟨rfl, rfl, trivial⟩ rfl rfW rfW ?_
    rintro k S2 ⟨hk, hS2⟩
    have hl2 : S2.length = 8 := by rw [hS2, iter_len (absB_len p a)]; exact hl
    by_cases h2 : k < 32
    · have hok : k + 1 ≤ 32 ∧ S2.set (k / 8) (S2.getD (k / 8) default ^^^ UInt64.ofNat ((p.getD (a + k) default).toNat * 2 ^ (k % 8 * 8) % 2 ^ 64)) = iter (absB p a) S (k + 1) := ⟨h2, by rw [hS2]; rfl⟩
      have q1 : k / 8 < 8 := by omega
      have q2 : k % 8 * 8 ≤ 56 := by omega
      have q3 := (p.getD (a + k) default).toNat_lt
      clear hS hS2 hs
      exact wk trueW trueW trueW
    · obtain rfl : k = 32 := by omega
      have c3 := SMix S2 hl2
      have hok : i + 1 ≤ m ∧ mixQ S2 = stR p (i + 1) ∧ a + 32 = 32 * (i + 1) := ⟨h, by rw [hS2, hS, ha]; rfl, by omega⟩
      have hml : (mixQ S2).length = 8 := (mixQ_len S2).trans hl2
      clear hS hS2 hs c2
      generalize mixQ S2 = S3 at *
      exact wk trueW trueW trueW
  · obtain rfl : i = m := by omega
    have hs' : ∀ _ : Unit, iter (outStep S) (List.replicate 32 0) 32 = out := fun u => by rw [hS]; exact hs u
    clear hs hS
    refine wk ?_ trueW trueW
    refine LC.loop2 (fun k L => [(2, .p 2 0), (3, .p 3 0), (7, .p 7 0), (40, .k (.int .i64 ((k : Nat) : Int)))]) (fun k L => [(2, .b (List.replicate 32 (.k (.int .u8 0)))), (3, .b (S.map qK)), (7, .b (L.map bK))]) (fun k L => k ≤ 32 ∧ L = iter (outStep S) (List.replicate 32 0) k) ((32 - ·)) (0) ((List.replicate 32 0)) ⟨by omega, rfl⟩ ⟨rfl, rfl, rfl, rfl, trivial⟩ ⟨rfl, rfl, rfl, trivial⟩ rfl rfW rfW ?_
    rintro k L ⟨hk, hL⟩
    have hlL : L.length = 32 := by rw [hL, iterB_len (outStep_len S)]; rfl
    by_cases h2 : k < 32
    · have hok : k + 1 ≤ 32 ∧ L.set k (UInt8.ofNat ((S.getD (k / 8) default).toNat / 2 ^ (k % 8 * 8))) = iter (outStep S) (List.replicate 32 0) (k + 1) := ⟨h2, by rw [hL]; rfl⟩
      have q1 : k / 8 < 8 := by omega
      have q2 : k % 8 * 8 ≤ 56 := by omega
      clear hL hs'
      exact wk trueW trueW trueW
    · obtain rfl : k = 32 := by omega
      rw [hs' ()] at hL
      rw [← hL]
      clear hL hs'
      exact wk trueW trueW trueW
end Sr
end Lf
namespace Ps
def pos (B : Nat) : List Nat → Nat
  | [] => 0
  | a :: l => a * B ^ l.length + pos B l
def NL (l : List Nat) : Prop := l.head? ≠ some 0
def lexN : List Nat → List Nat → Bool
  | a :: l, b :: m => decide (a < b) || (decide (a = b) && lexN l m)
  | [], _ :: _ => true
  | _, [] => false
theorem pos_append (B : Nat) (l m : List Nat) : pos B (l ++ m) = pos B l * B ^ m.length + pos B m := by
  induction l with
  | nil => simp [pos]
  | cons a l ih =>
    simp only [List.cons_append, pos, ih, List.length_append, Nat.pow_add, Nat.add_mul, Nat.mul_assoc, Nat.add_assoc]
theorem pos_lt {B : Nat} {l : List Nat} (h : ∀ a ∈ l, a < B) : pos B l < B ^ l.length := by
  induction l with
  | nil => simp [pos]
  | cons a l ih =>
    have h1 := ih fun x hx => h x (by simp [hx])
    have h2 : (a + 1) * B ^ l.length ≤ B * B ^ l.length := Nat.mul_le_mul_right _ (h a (by simp))
    simp only [pos, List.length_cons, Nat.pow_succ]
    rw [Nat.mul_comm (B ^ l.length) B]
    rw [Nat.add_mul, Nat.one_mul] at h2
    omega
theorem pos_ge {B : Nat} {a : Nat} {l : List Nat} (h : a ≠ 0) : B ^ l.length ≤ pos B (a :: l) := by
  simp only [pos]
  have : 1 * B ^ l.length ≤ a * B ^ l.length := Nat.mul_le_mul_right _ (by omega)
  omega
theorem pos_lex {B : Nat} : ∀ {l m : List Nat}, l.length = m.length → (∀ a ∈ l, a < B) → (∀ a ∈ m, a < B) → (pos B l < pos B m ↔ lexN l m = true)
  | [], [], _, _, _ => by simp [pos, lexN]
  | a :: l, b :: m, hl, h1, h2 => by
    have hl' : l.length = m.length := by simpa using hl
    have ih := pos_lex hl' (fun x hx => h1 x (by simp [hx])) (fun x hx => h2 x (by simp [hx]))
    have k1 := pos_lt (B := B) (l := l) fun x hx => h1 x (by simp [hx])
    have k2 := pos_lt (B := B) (l := m) fun x hx => h2 x (by simp [hx])
    simp only [pos, lexN, Bool.or_eq_true, Bool.and_eq_true, decide_eq_true_eq, ← ih]
    rw [← hl'] at k2 ⊢
    generalize B ^ l.length = p at *
    rcases Nat.lt_trichotomy a b with h | h | h
    · have := Nat.mul_le_mul_right p (Nat.succ_le_of_lt h)
      rw [Nat.succ_mul] at this
      exact ⟨fun _ => .inl h, fun _ => by omega⟩
    · subst h
      exact ⟨fun k => .inr ⟨rfl, by omega⟩, fun k => by rcases k with k | k <;> omega⟩
    · have := Nat.mul_le_mul_right p (Nat.succ_le_of_lt h)
      rw [Nat.succ_mul] at this
      exact ⟨fun k => by omega, fun k => by rcases k with k | k <;> omega⟩
  | [], _ :: _, hl, _, _ => by simp at hl
  | _ :: _, [], hl, _, _ => by simp at hl
theorem pos_len {B : Nat} {l m : List Nat} (hB : 0 < B) (hl : l.length < m.length) (h1 : ∀ a ∈ l, a < B) (hm : NL m) : pos B l < pos B m := by
  cases m with
  | nil => simp at hl
  | cons b m =>
    have h2 : b ≠ 0 := fun e => hm (by simp [e])
    have := pos_ge (B := B) (l := m) h2
    have k := pos_lt h1
    have : B ^ l.length ≤ B ^ m.length := Nat.pow_le_pow_right hB (by simp at hl; omega)
    omega
theorem pos_order {B : Nat} {l m : List Nat} (hB : 0 < B) (h1 : ∀ a ∈ l, a < B) (h2 : ∀ a ∈ m, a < B) (k1 : NL l) (k2 : NL m) : pos B l < pos B m ↔ l.length < m.length ∨ (l.length = m.length ∧ lexN l m = true) := by
  rcases Nat.lt_trichotomy l.length m.length with h | h | h
  · exact ⟨fun _ => .inl h, fun _ => pos_len hB h h1 k2⟩
  · rw [pos_lex h h1 h2]
    exact ⟨fun k => .inr ⟨h, k⟩, fun k => by rcases k with k | k <;> first | omega | exact k.2⟩
  · have := pos_len hB h h2 k1
    exact ⟨fun k => by omega, fun k => by omega⟩
theorem lexN_eq : ∀ {l m : List Nat}, l.length = m.length → lexN l m = false → lexN m l = false → l = m
  | [], [], _, _, _ => rfl
  | a :: l, b :: m, hl, h1, h2 => by
    simp only [lexN, Bool.or_eq_false_iff, Bool.and_eq_false_iff, decide_eq_false_iff_not] at h1 h2
    obtain rfl : a = b := by omega
    rw [lexN_eq (l := l) (m := m) (by simpa using hl) (by rcases h1.2 with h | h; exact absurd rfl h; exact h) (by rcases h2.2 with h | h; exact absurd rfl h; exact h)]
  | [], _ :: _, hl, _, _ => by simp at hl
  | _ :: _, [], hl, _, _ => by simp at hl
theorem pos_inj {B : Nat} {l m : List Nat} (hB : 0 < B) (h1 : ∀ a ∈ l, a < B) (h2 : ∀ a ∈ m, a < B) (k1 : NL l) (k2 : NL m) (h : pos B l = pos B m) : l = m := by
  have e1 := pos_order hB h1 h2 k1 k2
  have e2 := pos_order hB h2 h1 k2 k1
  have n1 : ¬ (l.length < m.length ∨ (l.length = m.length ∧ lexN l m = true)) := fun h' => by have := e1.2 h'; omega
  have n2 : ¬ (m.length < l.length ∨ (m.length = l.length ∧ lexN m l = true)) := fun h' => by have := e2.2 h'; omega
  have hl : l.length = m.length := by omega
  refine lexN_eq hl ?_ ?_
  · rw [← Bool.not_eq_true]; exact fun h' => n1 (.inr ⟨hl, h'⟩)
  · rw [← Bool.not_eq_true]; exact fun h' => n2 (.inr ⟨hl.symm, h'⟩)
def strip (l : List UInt8) : List UInt8 := l.dropWhile (· == 0)
def nat8 (l : List UInt8) : List Nat := l.map UInt8.toNat
theorem nat8_lt (l : List UInt8) : ∀ a ∈ nat8 l, a < 256 := fun a ha => by
  obtain ⟨x, _, rfl⟩ := List.mem_map.1 ha
  exact x.toNat_lt
theorem nat8_inj {l m : List UInt8} (h : nat8 l = nat8 m) : l = m := by
  induction l generalizing m with
  | nil => cases m with
    | nil => rfl
    | cons _ _ => simp [nat8] at h
  | cons a l ih => cases m with
    | nil => simp [nat8] at h
    | cons b m =>
      simp only [nat8, List.map_cons, List.cons.injEq] at h
      rw [UInt8.toNat_inj.1 h.1, ih h.2]
theorem strip_nl (l : List UInt8) : NL (nat8 (strip l)) := by
  unfold strip
  induction l with
  | nil => simp [NL, nat8]
  | cons a l ih =>
    rw [List.dropWhile_cons]
    split
    · exact ih
    · rename_i h
      intro e
      simp only [nat8, List.map_cons, List.head?_cons, Option.some.injEq] at e
      apply h
      have : a = 0 := UInt8.toNat_inj.1 (by rw [e]; rfl)
      simp [this]
theorem strip_pos (B : Nat) (l : List UInt8) : pos B (nat8 (strip l)) = pos B (nat8 l) := by
  unfold strip
  induction l with
  | nil => rfl
  | cons a l ih =>
    rw [List.dropWhile_cons]
    split
    · rename_i h
      have : a = 0 := by simpa using h
      subst this
      rw [ih]
      simp [nat8, pos]
    · rfl
theorem nl_iff (l : List UInt8) : NL (nat8 l) ↔ l.head? ≠ some 0 := by
  cases l with
  | nil => simp [NL, nat8]
  | cons a l =>
    simp only [NL, nat8, List.map_cons, List.head?_cons, ne_eq, Option.some.injEq]
    constructor
    · intro h e; apply h; rw [e]; rfl
    · intro h e; apply h; exact UInt8.toNat_inj.1 (by rw [e]; rfl)
theorem strip_id {l : List UInt8} (h : l.head? ≠ some 0) : strip l = l := by
  cases l with
  | nil => rfl
  | cons a l =>
    unfold strip
    rw [List.dropWhile_cons, if_neg]
    intro e
    apply h
    have : a = 0 := by simpa using e
    rw [this]; rfl
def beN (l : List UInt8) : Nat := pos 256 (nat8 l)
theorem beN_strip (l : List UInt8) : beN (strip l) = beN l := strip_pos 256 l
theorem beN_inj {l m : List UInt8} (k1 : l.head? ≠ some 0) (k2 : m.head? ≠ some 0) (h : beN l = beN m) : l = m :=
  nat8_inj (pos_inj (by decide) (nat8_lt l) (nat8_lt m) ((nl_iff l).2 k1) ((nl_iff m).2 k2) h)
theorem strip_head (l : List UInt8) : (strip l).head? ≠ some 0 := (nl_iff _).1 (strip_nl l)
end Ps
open Go.RowKit
namespace Rf
open Rg (noCall noCall_spec np wp_monoQ wpOp_monoQ Closed Closed.step waits waitsB waits_listed nth pick freeW chkS chkT chk planSize nth_of)
structure Ext (F : Nat → Prop) (w w' : World) : Prop where
  size : w.heap.size ≤ w'.heap.size
  block : ∀ k, k < w.heap.size → F k → w'.heap[k]? = w.heap[k]?
theorem Ext.refl {F : Nat → Prop} (w : World) : Ext F w w := ⟨Nat.le_refl _, fun _ _ _ => rfl⟩
theorem Ext.trans {F : Nat → Prop} {a b c : World} (h : Ext F a b) (k : Ext F b c) : Ext F a c := ⟨Nat.le_trans h.size k.size, fun i hi hF => (k.block i (Nat.lt_of_lt_of_le hi h.size) hF).trans (h.block i hi hF)⟩
theorem Ext.of {F : Nat → Prop} {w w' : World} (h : Rg.Ext w w') : Ext F w w' := ⟨h.size, fun k hk _ => h.block k hk⟩
theorem Ext.setCell {F : Nat → Prop} (w : World) (p : Addr) (u : Value) (h : ¬ F p.block) : Ext F w (w.setCell p u) :=
  ⟨by simp, fun k _ hF => Below.heap_setCell w p u k (fun e => h (e ▸ hF))⟩
theorem Ext.setRow {F : Nat → Prop} (w : World) (g : Nat) (cs : Array Value) (h : ¬ F g) : Ext F w (w.setRow g cs) :=
  ⟨by simp, fun k _ hF => setRow_other w g k cs (fun e => h (e ▸ hF))⟩
structure Lt (F : Nat → Prop) (w : World) where
  v : World
  ext : Ext F w v
instance (F : Nat → Prop) (w : World) : Nonempty (Lt F w) := ⟨⟨w, Ext.refl w⟩⟩
def Cls (F : Nat → Prop) (w : World) (w' : World) : Prop := ∃ x : Lt F w, w' = x.v
theorem Cls.mk {F : Nat → Prop} {w w' : World} (h : Ext F w w') : Cls F w w' := ⟨⟨w', h⟩, rfl⟩
@[go_sem] theorem cls_iff (F : Nat → Prop) (w w' : World) : Cls F w w' ↔ ∃ x : Lt F w, w' = x.v := Iff.rfl
theorem Ext.cell {F : Nat → Prop} {w w' : World} (h : Ext F w w') {a : Addr} {v : Value} (hc : w.cell? a = some v) (hF : F a.block) : w'.cell? a = some v := by
  rw [World.cell?_of_block (w := w) (h.block a.block (World.block_lt_of_cell? w a hc) hF)]; exact hc
theorem later {F : Nat → Prop} {w : World} {a : Addr} {v : Value} (hc : w.cell? a = some v) (hF : F a.block) : ∀ x : Lt F w, x.v.cell? a = some v := fun x => x.ext.cell hc hF
section
variable {F : Nat → Prop} {P : Program} {ops : Array Oper} {Q : Exit → Act → World → Prop} {md : Region.Mode}
def Yld (F : Nat → Prop) (P : Program) (ops : Array Oper) (w : World) (o : Oper) (v : Value) (a : Act) : Prop :=
  (Region.wanted o (yielded ops a.tmps) = true ∧ ∀ w', Ext F w w' → (execOp a.eval o).run P w' = .ok (.value v) w' ∨ ((execOp a.eval o).run P w' = .ok .skip w' ∧ v = undef)) ∨
  (Region.wanted o (yielded ops a.tmps) = false ∧ v = undef)
theorem Yld.later {w w1 : World} {o : Oper} {v : Value} {a : Act} (h : Yld F P ops w o v a) (he : Ext F w w1) : Yld F P ops w1 o v a := by
  rcases h with ⟨hw, h⟩ | h
  · exact .inl ⟨hw, fun w' hw' => h w' (he.trans hw')⟩
  · exact .inr h
theorem Yld.of_same {w : World} {o : Oper} {v : Value} {a a' : Act} (hy : Yld F P ops w o v a) (he : execOp a'.eval o = execOp a.eval o)
    (hw : Region.wanted o (yielded ops a'.tmps) = Region.wanted o (yielded ops a.tmps)) : Yld F P ops w o v a' := by
  unfold Yld at *
  rw [he, hw]
  exact hy
theorem Yld.wpOp {w : World} {i : Nat} {o : Oper} {v : Value} {a : Act} (hi : ops[i]? = some o) (hy : Yld F P ops w o v a) {K : Act → World → Prop} (h : K (a.put o.dst v) w) : wpOp P ops Q i K a w := by
  unfold Go.wpOp
  simp only [hi]
  rcases hy with ⟨hw, hv⟩ | ⟨hw, rfl⟩
  · rw [if_pos hw]
    refine .inl ?_
    unfold Oper.wp
    rcases hv w (Ext.refl w) with hx | ⟨hx, rfl⟩
    · rw [hx]; exact h
    · rw [hx]; exact h
  · simp only [hw, Bool.false_eq_true, if_false]; exact h
theorem yld_of_quiet {w : World} {o : Oper} {a : Act} {K : Act → Prop} (hn : noCall o.op = true)
    (h : if Region.wanted o (yielded ops a.tmps) then o.quiet P a (Cls F w) K else K (a.put o.dst undef)) : ∃ v, Yld F P ops w o v a ∧ K (a.put o.dst v) := by
  by_cases hw : Region.wanted o (yielded ops a.tmps) = true
  · simp only [hw, if_true] at h
    obtain ⟨v, h1, h2⟩ := h
    refine ⟨v, .inl ⟨hw, fun w' hw' => ?_⟩, h2⟩
    have h3 := h1 w' (Cls.mk hw')
    unfold Oper.quietAt at h3
    have hne := fun f args w'' => noCall_spec (P := P) hn a.eval w' f args w''
    generalize (execOp a.eval o).run P w' = r at *
    cases r with
    | halt x w'' => simp only [Oper.quietUpon] at h3
    | ok n w'' =>
      cases n <;> simp only [Oper.quietUpon] at h3
      case value u => obtain ⟨rfl, rfl⟩ := h3; exact .inl rfl
      case skip => obtain ⟨rfl, rfl⟩ := h3; exact .inr ⟨rfl, rfl⟩
      case enter f args => exact absurd rfl (hne f args w'')
  · simp only [hw] at h
    exact ⟨undef, .inr ⟨by simpa using hw, rfl⟩, h⟩
def anyE (F : Nat → Prop) (P : Program) (md : Region.Mode) (ops : Array Oper) (Q : Exit → Act → World → Prop) (tl : List Nat) (wb : World) : Nat → Array Bool → Act → World → Prop
  | 0, listed, a, w => Region.ready md ops listed = [] ∧ Q .normal a w
  | fuel + 1, listed, a, w =>
    (Region.ready md ops listed = [] → Q .normal a w) ∧
    ∀ i ∈ Region.ready md ops listed, wpOp P ops (if tl.contains i then Q else np Q) i (fun a' w' => (tl.contains i = false → Ext F wb w') ∧ anyE F P md ops Q tl wb fuel (listed.setIfInBounds i true) a' w') a w
theorem anyE_any {tl : List Nat} {wb : World} : ∀ (fuel : Nat) (listed : Array Bool) (a : Act) (w : World), anyE F P md ops Q tl wb fuel listed a w → wpAny P md ops Q fuel listed a w
  | 0, _, _, _, h => h
  | fuel + 1, _, _, _, h => ⟨h.1, fun i hi => wpOp_monoQ (fun c a w hq => by split at hq; exact hq; exact hq.2) (fun a w hq => by split at hq; exact hq; exact hq.2) (wpOp_mono (fun a' w' h' => anyE_any fuel _ a' w' h'.2) (h.2 i hi))⟩
theorem anyE_base {tl : List Nat} {wb wb' : World} (he : Ext F wb wb') : ∀ (fuel : Nat) (listed : Array Bool) (a : Act) (w : World), anyE F P md ops Q tl wb' fuel listed a w → anyE F P md ops Q tl wb fuel listed a w
  | 0, _, _, _, h => h
  | fuel + 1, _, _, _, h => ⟨h.1, fun i hi => wpOp_mono (fun a' w' h' => ⟨fun ht => he.trans (h'.1 ht), anyE_base he fuel _ a' w' h'.2⟩) (h.2 i hi)⟩
theorem anyE_first {tl : List Nat} {wb : World} {i : Nat} {oi : Oper} {v : Value} {W : Array Nat} (hW : waitsB md ops W = true) (hi : ops[i]? = some oi)
    (hsel : ∀ (j : Nat) (o : Oper) cs b, ops[j]? = some o → o.op ≠ .select cs b) :
    ∀ (fuel : Nat) (listed : Array Bool) (a : Act) (w : World), Closed md ops listed → Ext F wb w →
      (∀ j oj, ops[j]? = some oj → j ≠ i → listed.getD j true = false → waits W j i = true ∨ (oi.apart ops oj = true ∧ tl.contains j = false)) →
      i ∈ Region.ready md ops listed → Yld F P ops wb oi v a →
      anyE F P md ops Q tl wb fuel (listed.setIfInBounds i true) (a.put oi.dst v) w → anyE F P md ops Q tl wb (fuel + 1) listed a w := by
  intro fuel
  induction fuel with
  | zero =>
    intro listed a w hc hwb hfree hr hy H
    refine ⟨fun h => (by rw [h] at hr; cases hr), fun j hj => ?_⟩
    by_cases hji : j = i
    · subst hji; exact (hy.later hwb).wpOp hi ⟨fun _ => hwb, H⟩
    · have := ready_mono hj hji
      rw [H.1] at this
      cases this
  | succ fuel ih =>
    intro listed a w hc hwb hfree hr hy H
    refine ⟨fun h => (by rw [h] at hr; cases hr), fun j hj => ?_⟩
    by_cases hji : j = i
    · subst hji; exact (hy.later hwb).wpOp hi ⟨fun _ => hwb, H⟩
    · have h1 := H.2 j (ready_mono hj hji)
      obtain ⟨hjun, oj, hoj, hall⟩ := mem_ready.1 hj
      have hilt : i < ops.size := (Array.getElem?_eq_some_iff.1 hi).1
      have hiun : listed.getD i false = false := by
        have h0 := (mem_ready.1 hr).1
        rcases Nat.lt_or_ge i listed.size with h' | h'
        · simpa [h'] using h0
        · simp [Array.getElem?_eq_none h']
      have hap : oi.apart ops oj = true ∧ tl.contains j = false := by
        rcases hfree j oj hoj hji hjun with hw | h
        · have := waits_listed hW hc hilt j j oj (Nat.le_refl _) hoj hall hw
          rw [hiun] at this
          cases this
        · exact h
      obtain ⟨p1, p2, p3⟩ := Oper.apart_spec hap.1
      have hsi := fun cs b => hsel i oi cs b hi
      have hsj := fun cs b => hsel j oj cs b hoj
      have keep : ∀ (a : Act), Yld F P ops wb oi v a → ∀ u, Yld F P ops wb oi v (a.put oj.dst u) := fun a hy u =>
        hy.of_same (execOp_put oi hsi a oj.dst u p3) (wanted_put oi a oj.dst u p3)
      have keepD : ∀ d, Yld F P ops wb oi v { a with defers := d :: a.defers } := fun d => hy.of_same rfl rfl
      have hfree' : ∀ k ok, ops[k]? = some ok → k ≠ i → (listed.setIfInBounds j true).getD k true = false → waits W k i = true ∨ (oi.apart ops ok = true ∧ tl.contains k = false) := fun k ok hk hki hun => by
        refine hfree k ok hk hki ?_
        by_cases hjk : j = k
        · subst hjk; exact hjun
        · rw [getD_set_ne true hjk] at hun; exact hun
      have fin : ∀ (a' : Act) (w' : World), Yld F P ops wb oi v a' → Ext F wb w' → anyE F P md ops Q tl wb fuel ((listed.setIfInBounds i true).setIfInBounds j true) (a'.put oi.dst v) w' →
          (True → Ext F wb w') ∧ anyE F P md ops Q tl wb (fuel + 1) (listed.setIfInBounds j true) a' w' := fun a' w' hy' he' h' =>
        ⟨fun _ => he', ih _ a' w' (hc.step hj) he' hfree' (ready_mono hr (Ne.symm hji)) hy' (by rw [Array.setIfInBounds_comm _ _ hji]; exact h')⟩
      rw [hap.2] at h1 ⊢
      simp only [Bool.false_eq_true, if_false] at h1 ⊢
      unfold wpOp at *
      simp only [hoj] at *
      rw [wanted_put oj a oi.dst v p1] at h1
      split
      · rename_i hw
        simp only [hw, if_true] at h1
        rcases h1 with h1 | ⟨hasks, hlets⟩
        case inr => exact .inr ⟨by unfold Oper.asks at *; rw [execOp_put oj hsj a oi.dst v p1] at hasks; exact hasks, hlets⟩
        refine .inl ?_
        unfold Oper.wp at *
        rw [execOp_put oj hsj a oi.dst v p1] at h1
        generalize (execOp a.eval oj).run P w = r at *
        cases r with
        | ok n w' =>
          cases n <;> simp only [Oper.upon] at h1 ⊢
          case value u => exact fin _ _ (keep a hy u) (h1.1 trivial) (by rw [← Act.put_comm a v u p2]; exact h1.2)
          case skip => exact fin _ _ (keep a hy _) (h1.1 trivial) (by rw [← Act.put_comm a v undef p2]; exact h1.2)
          case defer d =>
            refine fin _ _ (keep _ (keepD d) _) (h1.1 trivial) ?_
            rw [← Act.put_comm _ v undef p2, ← Act.put_defers]
            exact h1.2
          case enter f args =>
            refine Calls.mono h1 fun e w'' he => ?_
            cases e with
            | returned u => exact fin _ _ (keep a hy u) (he.1 trivial) (by rw [← Act.put_comm a v u p2]; exact he.2)
            | panicked c => exact absurd rfl (he.1 c)
            | outgrown => exact he
          case row row args => exact Rows.mono h1 fun u w'' he => fin _ _ (keep a hy u) (he.1 trivial) (by rw [← Act.put_comm a v u p2]; exact he.2)
        | halt x w' =>
          cases x <;> simp only [Oper.upon] at h1 ⊢
          case panic u => exact absurd rfl (h1.1 _)
      · rename_i hw
        simp only [hw] at h1
        exact fin _ _ (keep a hy _) (h1.1 trivial) (by rw [← Act.put_comm a v undef p2]; exact h1.2)
def walk (F : Nat → Prop) (P : Program) (ops : Array Oper) (Q : Exit → Act → World → Prop) (tail : List Oper) : List (List Oper × Oper) → List Oper → World → Act → Prop
  | [], last, w, a => wpQuiet P ops (Cls F w) (fun a' => wpList P ops Q tail a' w) last a
  | (S, oc) :: t, last, w, a => wpQuiet P ops (Cls F w) (fun a' => wpList P ops (Exit.then (fun a'' w'' => Ext F w w'' ∧ walk F P ops Q tail t last w'' a'') (fun _ _ _ => False)) [oc] a' w) S a
theorem tail_sound {tl : List Nat} {wb : World} : ∀ (l : List Nat) (listed : Array Bool) (a : Act) (w : World), chkT md ops tl l listed = true → wpList P ops Q (pick ops.toList l) a w →
    anyE F P md ops Q tl wb l.length listed a w
  | [], listed, a, w, hc, h => ⟨by simpa [chkT] using hc, by simpa [pick, wpList] using h⟩
  | i :: l, listed, a, w, hc, h => by
    simp only [chkT, Bool.and_eq_true, beq_iff_eq] at hc
    obtain ⟨⟨hr, ht⟩, hc⟩ := hc
    refine ⟨fun h0 => (by rw [h0] at hr; cases hr), fun j hj => ?_⟩
    rw [hr] at hj
    obtain rfl : j = i := by simpa using hj
    have hmem : j ∈ Region.ready md ops listed := by rw [hr]; simp
    obtain ⟨_, o, ho, _⟩ := mem_ready.1 hmem
    have hn : nth ops.toList j = o := nth_of (by simpa using ho)
    simp only [pick, hn, wpList] at h
    rw [if_pos ht]
    unfold wpOp
    simp only [ho]
    have fin : ∀ a' w', wpList P ops Q (pick ops.toList l) a' w' → (tl.contains j = false → Ext F wb w') ∧ anyE F P md ops Q tl wb l.length (listed.setIfInBounds j true) a' w' :=
      fun a' w' h' => ⟨fun hf => (by rw [ht] at hf; cases hf), tail_sound l _ a' w' hc h'⟩
    split
    · rename_i hw
      rw [if_pos hw] at h
      rcases h with h | h
      · exact .inl (Oper.wp_mono fin h)
      · exact .inr h
    · rename_i hw
      rw [if_neg hw] at h
      exact fin _ _ h
theorem seg_sound {tl : List Nat} {W : Array Nat} {wb : World} (hW : waitsB md ops W = true) (hs : Region.noSelect ops = true) {k : Array Bool → Bool} {n : Nat} {K : Act → Prop}
    (hk : ∀ (listed : Array Bool) (a : Act), Closed md ops listed → k listed = true → K a → anyE F P md ops Q tl wb n listed a wb) :
    ∀ (l : List Nat) (listed : Array Bool) (a : Act), Closed md ops listed → chkS md ops W tl l listed k = true → wpQuiet P ops (Cls F wb) K (pick ops.toList l) a →
      anyE F P md ops Q tl wb (l.length + n) listed a wb
  | [], listed, a, hcl, hc, h => by simpa using hk listed a hcl (by simpa [chkS] using hc) (by simpa [pick, wpQuiet] using h)
  | i :: l, listed, a, hcl, hc, h => by
    simp only [chkS, Bool.and_eq_true] at hc
    obtain ⟨⟨hr, hf⟩, hc⟩ := hc
    have hmem : i ∈ Region.ready md ops listed := by simpa using hr
    obtain ⟨_, o, ho, _⟩ := mem_ready.1 hmem
    have hn : nth ops.toList i = o := nth_of (by simpa using ho)
    simp only [freeW, ho, Bool.and_eq_true, List.all_eq_true, List.mem_range] at hf
    obtain ⟨⟨hnc, htl⟩, hall⟩ := hf
    simp only [pick, hn, wpQuiet] at h
    obtain ⟨v, hy, h'⟩ := yld_of_quiet hnc h
    have := seg_sound hW hs hk l _ _ (hcl.step hmem) hc h'
    rw [List.length_cons, Nat.add_right_comm]
    refine anyE_first hW ho (Region.noSelect_spec hs) _ listed a wb hcl (Ext.refl _) (fun j oj hj hne hun => ?_) hmem hy this
    have h2 := hall j (Array.getElem?_eq_some_iff.1 hj).1
    simp only [hj, Bool.or_eq_true, beq_iff_eq, hne, hun, Bool.false_eq_true, false_or, Bool.and_eq_true, Bool.not_eq_true'] at h2
    exact h2
theorem walk_sound {tl : List Nat} {W : Array Nat} (hW : waitsB md ops W = true) (hs : Region.noSelect ops = true) : ∀ (pl : List (List Nat × Nat)) (last : List Nat) (listed : Array Bool) (a : Act) (w : World),
    Closed md ops listed → chk md ops W tl pl last listed = true → walk F P ops Q (pick ops.toList tl) (pl.map fun x => (pick ops.toList x.1, nth ops.toList x.2)) (pick ops.toList last) w a →
    anyE F P md ops Q tl w (planSize pl last tl) listed a w
  | [], last, listed, a, w, hcl, hc, h => by
    have := seg_sound (P := P) (Q := Q) hW hs (k := chkT md ops tl tl) (n := tl.length) (K := fun a' => wpList P ops Q (pick ops.toList tl) a' w) (wb := w)
      (fun l a' _ hk h' => tail_sound tl l a' w hk h') last listed a hcl (by simpa [chk] using hc) (by simpa [walk] using h)
    simpa [planSize] using this
  | (S, i) :: t, last, listed, a, w, hcl, hc, h => by
    have := seg_sound (P := P) (Q := Q) hW hs (wb := w) (n := planSize t last tl + 1) (tl := tl)
      (k := fun l' => Region.ready md ops l' == [i] && !tl.contains i && chk md ops W tl t last (l'.setIfInBounds i true))
      (K := fun a' => wpList P ops (Exit.then (fun a'' w'' => Ext F w w'' ∧ walk F P ops Q (pick ops.toList tl) (t.map fun x => (pick ops.toList x.1, nth ops.toList x.2)) (pick ops.toList last) w'' a'') (fun _ _ _ => False)) [nth ops.toList i] a' w)
      (fun l a' hcl' hk h' => by
        simp only [Bool.and_eq_true, beq_iff_eq, Bool.not_eq_true'] at hk
        obtain ⟨⟨hr, ht⟩, hc'⟩ := hk
        refine ⟨fun h0 => (by rw [h0] at hr; cases hr), fun j hj => ?_⟩
        rw [hr] at hj
        obtain rfl : j = i := by simpa using hj
        have hmem : j ∈ Region.ready md ops l := by rw [hr]; simp
        obtain ⟨_, o, ho, _⟩ := mem_ready.1 hmem
        have hn : nth ops.toList j = o := nth_of (by simpa using ho)
        rw [ht]
        simp only [Bool.false_eq_true, if_false]
        simp only [hn, wpList, Exit.then] at h'
        have fin : ∀ a'' w'', (Ext F w w'' ∧ walk F P ops Q (pick ops.toList tl) (t.map fun x => (pick ops.toList x.1, nth ops.toList x.2)) (pick ops.toList last) w'' a'') →
            (True → Ext F w w'') ∧ anyE F P md ops Q tl w (planSize t last tl) (l.setIfInBounds j true) a'' w'' := fun a'' w'' hh =>
          ⟨fun _ => hh.1, anyE_base hh.1 _ _ _ _ (walk_sound hW hs t last _ a'' w'' (hcl'.step hmem) hc' hh.2)⟩
        unfold wpOp
        simp only [ho]
        split
        · rename_i hw
          rw [if_pos hw] at h'
          rcases h' with h' | ⟨_, a0, w0, hq⟩
          · refine .inl (wp_monoQ (Q' := Exit.then (fun a'' w'' => Ext F w w'' ∧ walk F P ops Q (pick ops.toList tl) (t.map fun x => (pick ops.toList x.1, nth ops.toList x.2)) (pick ops.toList last) w'' a'') (fun _ _ _ => False)) (fun c a1 w1 hq => hq.elim) (fun a1 w1 hq => hq.elim) (Oper.wp_mono fin h'))
          · exact hq.elim
        · rename_i hw
          rw [if_neg hw] at h'
          exact fin _ _ h') S listed a hcl (by simpa [chk] using hc) (by simpa [walk] using h)
    have e : planSize ((S, i) :: t) last tl = S.length + (planSize t last tl + 1) := by simp [planSize]; omega
    rw [e]
    exact this
theorem region (F : Nat → Prop) {id : Nat} {l : List Oper} {a : Act} {w : World} (pl : List (List Nat × Nat)) (last tl : List Nat) (hm : P.follows .mixedOrders = true)
    (hB : (waitsB .any l.toArray (Region.before l.toArray) && Region.noSelect l.toArray && chk .any l.toArray (Region.before l.toArray) tl pl last (Array.replicate l.length false) && planSize pl last tl == l.length) = true)
    (h : ∀ w', Rg.Ext w w' → walk F P l.toArray Q (pick l tl) (pl.map fun x => (pick l x.1, nth l x.2)) (pick l last) w' a) : (Code.region id l.toArray true).wp P Q a w := by
  simp only [Bool.and_eq_true, beq_iff_eq] at hB
  obtain ⟨⟨⟨hW, hs⟩, hc⟩, hsz⟩ := hB
  refine wp_region_any hm (anyE_any (F := F) (tl := tl) (wb := { w with drawn := w.drawn + 1 }) _ _ _ _ ?_)
  have := walk_sound (F := F) (P := P) (Q := Q) (md := .any) (ops := l.toArray) (tl := tl) hW hs pl last (Array.replicate l.length false) a { w with drawn := w.drawn + 1 } (by
    intro j o _ hl
    exfalso
    simp [Array.getElem?_replicate] at hl
    split at hl <;> simp_all) (by simpa using hc) (by simpa using h _ (Below.drew (Below.refl _ w)))
  rw [hsz] at this
  simpa using this
end
end Rf
open Go.RowKit Rp Rg Ops Mm Ar Wm
namespace Wd
theorem aggW : Agg Try.prog 114 4 := ⟨⟨.array 4 24, by kernel_rfl, rfl⟩, by kernel_rfl⟩
theorem word_small (n : Nat) (h0 : n < m64) : wordA n = #[.int .u64 (n : Int), .int .u64 0, .int .u64 0, .int .u64 0] := by
  simp only [wordA, arr, List.range_succ_eq_map, List.range_zero, List.map_cons, List.map_nil, u64V]
  have e0 : limb n 0 = n := by simp [limb, Nat.mod_eq_of_lt h0]
  have e : ∀ k, limb n (k + 1) = 0 := fun k => by
    unfold limb
    rw [Nat.div_eq_of_lt (Nat.lt_of_lt_of_le h0 (by rw [Nat.pow_succ]; exact Nat.le_mul_of_pos_left _ (pow_pos' k)))]
    simp
  simp [e0, e]
theorem IntW (n : Nat) (hn : n < m64) (w : World) : Calls Try.prog 56 #[.int .u64 (n : Int)] w fun e w' => e = .returned (.agg (wordA n)) ∧ Ext w w' := by
  have hz := word_small n hn
  have HZ := Lib.hid hz
  clear hz
  have s1 := (St.start w).alloc (arr 4 fun _ => .int .u64 0) 114
  have s2 := s1.setRow 0 rfl #[.int .u64 (n : Int), .int .u64 0, .int .u64 0, .int .u64 0]
  go_enter Try.func56, Try.ntmps56
  go_wp2_with (refine stAll aggW (vs := #[.int .u64 (n : Int), .int .u64 0, .int .u64 0, .int .u64 0]) rfl _ _ rfl (by rfl) (by rfl) (s1.at 0 rfl) (by rfl) (by rfl) (by simp [Value.oneCell']) ?_)
  go_wp2
  refine bodyPost_ret (v := .agg _) (ret_cell aggW rfl rfl (s2.at 0 rfl) rfl) rfl ⟨by rw [HZ.out], s2.below⟩
end Wd
namespace Wd
end Wd
open Go.RowKit Rg Wm Ar
namespace Lf
def limbs (x : Nat) : List Nat := [limb x 0, limb x 1, limb x 2, limb x 3]
abbrev wV (x : Nat) : V := .a ((limbs x).map uK)
theorem limbs_len (x : Nat) : (limbs x).length = 4 := rfl
theorem limbs_get (x : Nat) {k : Nat} (h : k < 4) : (limbs x).getD k default = limb x k := by
  match k, h with
  | 0, _ => rfl
  | 1, _ => rfl
  | 2, _ => rfl
  | 3, _ => rfl
theorem limb_lt64 (x k : Nat) : limb x k < 18446744073709551616 := limb_lt x k
theorem limbs_lt (x k : Nat) : (limbs x).getD k default < 18446744073709551616 := by
  rcases Nat.lt_or_ge k 4 with h | h
  · rw [limbs_get x h]; exact limb_lt64 x k
  · rw [List.getD_eq_getElem?_getD, List.getElem?_eq_none (by rw [limbs_len]; exact h)]; exact Nat.zero_lt_succ _
theorem wordA_list (x : Nat) : wordA x = #[.int .u64 (limb x 0 : Int), .int .u64 (limb x 1 : Int), .int .u64 (limb x 2 : Int), .int .u64 (limb x 3 : Int)] := rfl
theorem exact_word (x : Nat) : Exact (wV x) (.agg (wordA x)) := by
  rw [wordA_list]
  refine ⟨fun w g => .a rfl (fun u hu => ?_) (fun j u y hj hy => ?_), fun w g y h => ?_⟩
  · obtain ⟨a, _, rfl⟩ := List.mem_map.1 hu; rfl
  · match j with
    | 0 => simp [limbs] at hj hy; subst hj; subst hy; exact .k _
    | 1 => simp [limbs] at hj hy; subst hj; subst hy; exact .k _
    | 2 => simp [limbs] at hj hy; subst hj; subst hy; exact .k _
    | 3 => simp [limbs] at hj hy; subst hj; subst hy; exact .k _
    | j + 4 => simp [limbs] at hj
  · cases h with
    | @a _ _ vs hl h1 hc =>
      have hs : vs.size = 4 := by simpa [limbs] using hl.symm
      congr 1
      apply Array.ext
      · simpa using hs
      · intro i h1 h2
        have hv : vs[i]? = some vs[i] := Array.getElem?_eq_getElem h1
        match i with
        | 0 => exact rep_k (hc 0 _ _ rfl hv)
        | 1 => exact rep_k (hc 1 _ _ rfl hv)
        | 2 => exact rep_k (hc 2 _ _ rfl hv)
        | 3 => exact rep_k (hc 3 _ _ rfl hv)
        | i + 4 => omega
theorem limbs_small {n : Nat} (h : n < m64) : limbs n = [n, 0, 0, 0] := by
  have h0 : limb n 0 = n := by unfold limb; rw [Nat.pow_zero, Nat.div_one, Nat.mod_eq_of_lt h]
  have hi : ∀ i, 1 ≤ i → limb n i = 0 := fun i hi => by
    have : m64 ≤ m64 ^ i := by
      have := Nat.pow_le_pow_right (show 0 < m64 from m64_pos) hi
      rwa [Nat.pow_one] at this
    unfold limb; rw [Nat.div_eq_of_lt (by omega), Nat.zero_mod]
  unfold limbs
  rw [h0, hi 1 (by decide), hi 2 (by decide), hi 3 (by decide)]
def beB (x : Nat) : Nat → List UInt8
  | 0 => []
  | n + 1 => UInt8.ofNat (x / 256 ^ n % 256) :: beB x n
theorem beB_len (x n : Nat) : (beB x n).length = n := by induction n <;> simp [beB, *]
theorem beB_num (x : Nat) : ∀ n, Ps.beN (beB x n) = x % 256 ^ n
  | 0 => by simp [beB, Ps.beN, Ps.nat8, Ps.pos, Nat.mod_one]
  | n + 1 => by
    have ih := beB_num x n
    have e : Ps.beN (beB x (n + 1)) = x / 256 ^ n % 256 * 256 ^ n + Ps.beN (beB x n) := by
      simp only [beB, Ps.beN, Ps.nat8, List.map_cons, Ps.pos, List.length_map, beB_len, UInt8.toNat_ofNat']
      simp
    rw [e, ih, Nat.pow_succ, Nat.mod_mul, Nat.mul_comm]
    omega
theorem m256_bytes : M256 = 256 ^ 32 := by unfold M256 m64; decide
def wordB (x : Nat) : List UInt8 := beB x 32
theorem wordB_len (x : Nat) : (wordB x).length = 32 := beB_len x 32
theorem wordB_num (x : Nat) : Ps.beN (wordB x) = x % M256 := by rw [m256_bytes]; exact beB_num x 32
def bytesR (x i : Nat) : List UInt8 := (List.range 32).map fun j => if j < i then UInt8.ofNat (x / 256 ^ (31 - j) % 256) else 0
theorem bytesR_len (x i : Nat) : (bytesR x i).length = 32 := by simp [bytesR]
theorem bytesR_full (x : Nat) : bytesR x 32 = wordB x := by
  have e : ∀ n, beB x n = (List.range n).map fun j => UInt8.ofNat (x / 256 ^ (n - 1 - j) % 256) := by
    intro n
    induction n with
    | zero => rfl
    | succ n ih =>
      rw [beB, ih, List.range_succ_eq_map, List.map_cons, List.map_map]
      congr 1
      refine List.map_congr_left fun j hj => ?_
      have := List.mem_range.1 hj
      simp only [Function.comp]
      rw [show n + 1 - 1 - (j + 1) = n - 1 - j by omega]
  unfold wordB bytesR
  rw [e]
  refine List.map_congr_left fun j hj => ?_
  rw [if_pos (List.mem_range.1 hj)]
theorem bytesR_set (x i : Nat) (_hi : i < 32) {b : Nat} (hb : b % 256 = x / 256 ^ (31 - i) % 256) : (bytesR x i).set i (UInt8.ofNat b) = bytesR x (i + 1) := by
  apply List.ext_getElem
  · simp [bytesR]
  · intro j h1 h2
    rw [List.getElem_set]
    simp only [bytesR, List.getElem_map, List.getElem_range]
    by_cases h : i = j
    · subst h
      rw [if_pos rfl, if_pos (by omega)]
      apply UInt8.toNat_inj.1
      rw [UInt8.toNat_ofNat', UInt8.toNat_ofNat']
      omega
    · rw [if_neg h]
      by_cases h3 : j < i
      · rw [if_pos h3, if_pos (by omega)]
      · rw [if_neg h3, if_neg (by omega)]
theorem limb_byte (x k r : Nat) (hr : r < 8) : limb x k / 2 ^ (r * 8) % 256 = x / 256 ^ (8 * k + r) % 256 := by
  unfold limb
  have e1 : (256 : Nat) ^ (8 * k + r) = m64 ^ k * 2 ^ (r * 8) := by
    rw [Nat.pow_add, Nat.pow_mul]
    have h1 : (256 : Nat) ^ 8 = m64 := by unfold m64; decide
    have h2 : (256 : Nat) ^ r = 2 ^ (r * 8) := by rw [Nat.mul_comm, Nat.pow_mul]
    rw [h1, h2]
  rw [e1, ← Nat.div_div_eq_div_mul]
  generalize x / m64 ^ k = y
  have h3 : m64 = 2 ^ (r * 8) * 2 ^ ((8 - r) * 8) := by rw [← Nat.pow_add, show r * 8 + (8 - r) * 8 = 64 from by omega]; unfold m64; decide
  have h4 : (256 : Nat) ∣ 2 ^ ((8 - r) * 8) := by
    refine ⟨2 ^ ((8 - r) * 8 - 8), ?_⟩
    have : (8 - r) * 8 = 8 + ((8 - r) * 8 - 8) := by omega
    rw [this, Nat.pow_add]; simp
  rw [h3, Nat.mod_mul_right_div_self]
  exact Nat.mod_mod_of_dvd _ h4
def tailN (l : List UInt8) (i : Nat) : Nat := Ps.beN (l.drop (l.length - i))
attribute [irreducible] bytesR limbs tailN wordB
end Lf
open Go.RowKit Rg Wm Ar
set_option linter.unusedVariables false
set_option maxRecDepth 100000
namespace Lf
namespace Wo
theorem IntW (n : Nat) (h : n < m64) : LF Try.prog 56 [uK n] (fun _ => wV n) none := .of_calls (by kernel_rfl) rfl (ex1 (exact_k _)) (exact_word _) fun w => Wd.IntW n h w
end Wo
theorem byte_at (x : Nat) {i : Nat} (h : i < 32) : (limbs x).getD ((31 - i) / 8) default / 2 ^ ((31 - i) % 8 * 8) % 256 = x / 256 ^ (31 - i) % 256 := by
  rw [limbs_get x (by omega), limb_byte _ _ _ (Nat.mod_lt _ (by decide))]
  congr 3
  omega
namespace Wo
set_option maxHeartbeats 1000000 in
theorem Bytes (x : Nat) : LF Try.prog 77 [wV x] (fun _ => .a ((wordB x).map bK)) none := by
  have hl := limbs_len x
  refine LFx.mk' tt Try.func77 rfl rfl rfl (by kernel_rfl) rfl rfl fun F => ?_
  refine wk ?_ trueW trueW
  refine LC.loop2 (fun i L => [(1, .p 1 0), (2, .p 2 0), (3, .p 3 0), (6, .k (.int .i64 ((i : Nat) : Int)))]) (fun i L => [(1, .b ((limbs x).map uK)), (2, .b ((List.replicate 32 0).map bK)), (3, .b (L.map bK))]) (fun i L => i ≤ 32 ∧ L = bytesR x i) ((32 - ·)) (0) ((List.replicate 32 0)) ⟨by omega, by unfold bytesR; rfl⟩ ⟨rfl, rfl, rfl, rfl, trivial⟩ ⟨rfl, rfl, rfl, trivial⟩ rfl rfW rfW ?_
  rintro i L ⟨hi, hL⟩
  have hb := bytesR_len x i
  rw [← hL] at hb
  rcases Nat.lt_or_ge i 32 with h | h
  · have hok : i + 1 ≤ 32 ∧ L.set i (UInt8.ofNat ((limbs x).getD ((31 - i) / 8) default / 2 ^ ((31 - i) % 8 * 8))) = bytesR x (i + 1) := ⟨h, by rw [hL]; exact bytesR_set x i h (byte_at x h)⟩
    clear hL
    exact wk trueW trueW trueW
  · obtain rfl : i = 32 := by omega
    have hv1 : V.a (L.map bK) = V.a ((wordB x).map bK) := by rw [hL, bytesR_full]
    clear hL
    exact wk trueW trueW trueW
end Wo
end Lf
namespace Pk
open Ps
inductive Itm where
  | mk (l : Bool) (t : List UInt8) (ks : List Itm)
  deriving Inhabited
mutual
def Itm.size : Itm → Nat
  | .mk _ t ks => 1 + t.length + Itm.sizeL ks
def Itm.sizeL : List Itm → Nat
  | [] => 0
  | k :: r => k.size + 1 + Itm.sizeL r
end
def numL : Nat → List UInt8
  | 0 => []
  | n + 1 => numL ((n + 1) / 256) ++ [UInt8.ofNat ((n + 1) % 256)]
decreasing_by omega
theorem beN_append (l m : List UInt8) : beN (l ++ m) = beN l * 256 ^ m.length + beN m := by
  unfold beN
  rw [show nat8 (l ++ m) = nat8 l ++ nat8 m by simp [nat8], pos_append]
  simp [nat8]
theorem beN_numL : ∀ n, beN (numL n) = n
  | 0 => by rw [numL]; rfl
  | n + 1 => by
    have h : (n + 1) / 256 < n + 1 := by omega
    rw [numL, beN_append, beN_numL ((n + 1) / 256)]
    have : beN [UInt8.ofNat ((n + 1) % 256)] = (n + 1) % 256 := by simp [beN, nat8, pos]
    rw [this]
    simp only [List.length_cons, List.length_nil]
    omega
decreasing_by omega
theorem numL_head : ∀ n, (numL n).head? ≠ some 0
  | 0 => by rw [numL]; simp
  | n + 1 => by
    have h : (n + 1) / 256 < n + 1 := by omega
    rw [numL]
    have ih := numL_head ((n + 1) / 256)
    cases hl : numL ((n + 1) / 256) with
    | nil =>
      have e := beN_numL ((n + 1) / 256)
      rw [hl] at e
      have e0 : beN [] = 0 := rfl
      rw [e0] at e
      intro h0
      simp only [List.nil_append, List.head?_cons, Option.some.injEq] at h0
      have := congrArg UInt8.toNat h0
      simp at this
      omega
    | cons a r => rw [hl] at ih; simpa using ih
decreasing_by omega
theorem numL_uniq {n : Nat} {l : List UInt8} (h : l.head? ≠ some 0) (k : beN l = n) : l = numL n := beN_inj h (numL_head n) (k.trans (beN_numL n).symm)
theorem strip_num {l : List UInt8} {n : Nat} (h : beN l = n) : strip l = numL n := numL_uniq (strip_head l) ((beN_strip l).trans h)
theorem numL_len {n k : Nat} (h : n < 256 ^ k) : (numL n).length ≤ k := by
  rcases Nat.lt_or_ge k (numL n).length with hlt | hge
  · exfalso
    have hh := numL_head n
    have hb := beN_numL n
    cases hl : numL n with
    | nil => rw [hl] at hlt; simp at hlt
    | cons a r =>
      rw [hl] at hh hb hlt
      have ha : a.toNat ≠ 0 := fun e => hh (by simp only [List.head?_cons, Option.some.injEq]; exact UInt8.toNat_inj.1 (by rw [e]; rfl))
      have := pos_ge (B := 256) (a := a.toNat) (l := nat8 r) ha
      have e : pos 256 (a.toNat :: nat8 r) = n := hb
      rw [e] at this
      have hp : 256 ^ k ≤ 256 ^ (nat8 r).length := Nat.pow_le_pow_right (by decide) (by simp [nat8] at hlt ⊢; omega)
      omega
  · exact hge
theorem numL_pos {n : Nat} (h : 0 < n) : 0 < (numL n).length := by
  rcases Nat.eq_zero_or_pos (numL n).length with h0 | h0
  · have e := beN_numL n
    rw [List.eq_nil_of_length_eq_zero h0] at e
    have e0 : beN [] = 0 := rfl
    omega
  · exact h0
def head (base n : Nat) : List UInt8 := if n < 48 then [UInt8.ofNat (base + n)] else UInt8.ofNat (base + 48 + ((numL n).length - 1)) :: numL n
mutual
def enc : Itm → List UInt8
  | .mk false t _ => if t.length = 1 ∧ t.getD 0 default < 128 then t else head 128 t.length ++ t
  | .mk true _ ks => head 192 (encL ks).length ++ encL ks
def encL : List Itm → List UInt8
  | [] => []
  | k :: r => enc k ++ encL r
end
mutual
def nrm : Itm → Itm
  | .mk false t _ => .mk false t []
  | .mk true _ ks => .mk true [] (nrmL ks)
def nrmL : List Itm → List Itm
  | [] => []
  | k :: r => nrm k :: nrmL r
end
mutual
def same : Itm → Itm → Bool
  | .mk l t ks, .mk l' t' ks' => decide (l = l') && (if l = false then decide (t = t') else decide (ks.length = ks'.length) && sameL ks ks')
def sameL : List Itm → List Itm → Bool
  | a :: r, b :: s => same a b && sameL r s
  | [], _ => true
  | _ :: _, [] => true
end
def take? (n : Nat) (l : List UInt8) : Option (List UInt8 × List UInt8) := if n ≤ l.length then some (l.take n, l.drop n) else none
def lenR (c base : Nat) (l : List UInt8) : Option (Nat × List UInt8) :=
  if c < base + 48 then some (c - base, l)
  else match take? (c - base - 48 + 1) l with
    | none => none
    | some (h, r) => if h.head? = some 0 ∨ 8 < h.length then none else if beN h < 48 then none else some (beN h, r)
def part (c base : Nat) (l : List UInt8) : Option (List UInt8 × List UInt8) :=
  match lenR c base l with
  | none => none
  | some (n, r) => take? n r
theorem take?_spec {n : Nat} {l a r : List UInt8} (h : take? n l = some (a, r)) : l = a ++ r ∧ a.length = n := by
  unfold take? at h
  split at h
  · cases h
    exact ⟨(List.take_append_drop n l).symm, by simp; omega⟩
  · cases h
theorem take?_app (a r : List UInt8) : take? a.length (a ++ r) = some (a, r) := by simp [take?]
theorem lenR_spec {c base n : Nat} {l r : List UInt8} (h : lenR c base l = some (n, r)) : r.length ≤ l.length := by
  unfold lenR at h
  split at h
  · cases h; exact Nat.le_refl _
  · split at h
    · cases h
    · rename_i h' r' ht
      obtain ⟨rfl, _⟩ := take?_spec ht
      split at h
      · cases h
      · split at h
        · cases h
        · cases h; simp
theorem part_spec {c base : Nat} {l a r : List UInt8} (h : part c base l = some (a, r)) : a.length + r.length ≤ l.length := by
  unfold part at h
  split at h
  · cases h
  · rename_i n r' hl
    have := lenR_spec hl
    obtain ⟨rfl, _⟩ := take?_spec h
    simpa using this
mutual
def rd : List UInt8 → Option (Itm × List UInt8)
  | [] => none
  | c :: l =>
    if c.toNat < 128 then some (.mk false [c] [], l)
    else if c.toNat < 192 then
      match part c.toNat 128 l with
      | none => none
      | some (b, r) => if b.length = 1 ∧ b.getD 0 default < 128 then none else some (.mk false b [], r)
    else match _hp : part c.toNat 192 l with
      | none => none
      | some (b, r) =>
        match rdL b with
        | none => none
        | some ks => some (.mk true [] ks, r)
termination_by l => (l.length, 0)
decreasing_by
  have := part_spec _hp
  exact Prod.Lex.left _ _ (by simp; omega)
def rdL (b : List UInt8) : Option (List Itm) :=
  if b = [] then some []
  else match rd b with
    | none => none
    | some (k, r) =>
      if r.length < b.length then
        match rdL r with
        | none => none
        | some ks => some (k :: ks)
      else none
termination_by (b.length, 1)
decreasing_by
  · exact Prod.Lex.right _ (by decide)
  · rename_i h; exact Prod.Lex.left _ _ h
end
theorem rd_len {l r : List UInt8} {k : Itm} (h : rd l = some (k, r)) : r.length < l.length := by
  cases l with
  | nil => rw [rd] at h; cases h
  | cons c l =>
    rw [rd] at h
    split at h
    · cases h; simp
    · split at h
      · split at h
        · cases h
        · rename_i b r' hp
          have := part_spec hp
          split at h
          · cases h
          · cases h; simp; omega
      · split at h
        · cases h
        · rename_i b r' hp
          have := part_spec hp
          split at h
          · cases h
          · cases h; simp; omega
theorem rdL_cons {b r : List UInt8} {k : Itm} (h : rd b = some (k, r)) : rdL b = (rdL r).map (k :: ·) := by
  rw [rdL]
  have hl := rd_len h
  have hb : b ≠ [] := fun e => by subst e; simp at hl
  rw [if_neg hb, h]
  simp only [hl, if_true]
  cases rdL r <;> rfl
theorem ofNat_toNat {n : Nat} (h : n < 256) : (UInt8.ofNat n).toNat = n := by simp; omega
theorem part_head {base : Nat} {t r : List UInt8} (hb : base + 64 ≤ 256) (ht : t.length < 2 ^ 64) : ∃ c h, head base t.length = c :: h ∧ base ≤ c.toNat ∧ c.toNat < base + 64 ∧ part c.toNat base (h ++ (t ++ r)) = some (t, r) := by
  unfold head
  rcases Nat.lt_or_ge t.length 48 with h | h
  · rw [if_pos h]
    have e := ofNat_toNat (n := base + t.length) (by omega)
    refine ⟨_, _, rfl, by omega, by omega, ?_⟩
    rw [e]
    unfold part lenR
    rw [if_pos (by omega)]
    simp only [List.nil_append, Nat.add_sub_cancel_left]
    exact take?_app t r
  · rw [if_neg (by omega)]
    have h8 : (numL t.length).length ≤ 8 := numL_len (by simpa using ht)
    have h0 := numL_pos (n := t.length) (by omega)
    have e := ofNat_toNat (n := base + 48 + ((numL t.length).length - 1)) (by omega)
    refine ⟨_, _, rfl, by omega, by omega, ?_⟩
    rw [e]
    unfold part lenR
    rw [if_neg (by omega), show base + 48 + ((numL t.length).length - 1) - base - 48 + 1 = (numL t.length).length by omega, take?_app]
    simp only []
    rw [if_neg (by intro hh; rcases hh with hh | hh; exact numL_head _ hh; omega), beN_numL, if_neg (by omega)]
    exact take?_app t r
mutual
theorem rd_enc : ∀ (a : Itm) (r : List UInt8), (enc a).length < 2 ^ 64 → rd (enc a ++ r) = some (nrm a, r)
  | .mk false t ks, r, h => by
    unfold enc at h ⊢
    split
    · rename_i h1
      obtain ⟨h1, h2⟩ := h1
      match t, h1 with
      | [c], _ =>
        have : c.toNat < 128 := h2
        simp only [List.cons_append, List.nil_append]
        rw [rd, if_pos this]
        rfl
    · rename_i h1
      rw [if_neg h1] at h
      obtain ⟨c, hh, e1, e2, e3, e4⟩ := part_head (base := 128) (t := t) (r := r) (by decide) (by simp at h; omega)
      rw [e1, List.cons_append, List.cons_append, List.append_assoc, rd, if_neg (by omega), if_pos (by omega), e4]
      simp only []
      rw [if_neg h1]
      rfl
  | .mk true t ks, r, h => by
    unfold enc at h ⊢
    have hl : (encL ks).length < 2 ^ 64 := by simp at h; omega
    obtain ⟨c, hh, e1, e2, e3, e4⟩ := part_head (base := 192) (t := encL ks) (r := r) (by decide) hl
    have ih := rdL_enc ks hl
    rw [e1, List.cons_append, List.cons_append, List.append_assoc, rd, if_neg (by omega), if_neg (by omega)]
    split
    · rename_i hp; rw [e4] at hp; cases hp
    · rename_i b r' hp
      rw [e4] at hp
      cases hp
      rw [ih]
      rfl
theorem rdL_enc : ∀ (a : List Itm), (encL a).length < 2 ^ 64 → rdL (encL a) = some (nrmL a)
  | [], _ => by rw [rdL]; rfl
  | k :: s, h => by
    unfold encL at h ⊢
    have h1 := rd_enc k (encL s) (by simp at h; omega)
    rw [rdL_cons h1, rdL_enc s (by simp at h; omega)]
    rfl
end
def dec (b : List UInt8) : Option Itm :=
  match rd b with
  | some (k, []) => some k
  | _ => none
theorem dec_enc {a : Itm} (h : (enc a).length < 2 ^ 64) : dec (enc a) = some (nrm a) := by
  have := rd_enc a [] h
  rw [List.append_nil] at this
  unfold dec
  rw [this]
theorem head_len {b n : Nat} (h : n < 2 ^ 64) : (head b n).length ≤ 9 := by
  unfold head
  split
  · simp
  · have := numL_len (n := n) (k := 8) (by simpa using h)
    simp only [List.length_cons]; omega
mutual
theorem enc_len : ∀ a : Itm, a.size < 2 ^ 56 → (enc a).length ≤ 9 * a.size
  | .mk false t ks, h => by
    unfold enc Itm.size at *
    split
    · omega
    · have : (head 128 t.length).length ≤ 9 := head_len (by omega)
      simp only [List.length_append]; omega
  | .mk true t ks, h => by
    unfold enc Itm.size at *
    have := encL_len ks (by omega)
    have h2 : (head 192 (encL ks).length).length ≤ 9 := head_len (by omega)
    simp only [List.length_append]; omega
theorem encL_len : ∀ a : List Itm, Itm.sizeL a < 2 ^ 56 → (encL a).length ≤ 9 * Itm.sizeL a
  | [], _ => by simp [encL]
  | k :: r, h => by
    unfold encL Itm.sizeL at *
    have h1 := enc_len k (by omega)
    have h2 := encL_len r (by omega)
    simp only [List.length_append]; omega
end
attribute [irreducible] head enc encL lenR part
end Pk
open Go.RowKit Rg
set_option linter.unusedVariables false
set_option maxRecDepth 100000
namespace Lf
section
variable {P : Program} {F : Fr0} {N : Nat} {Q : LQ} {env : Env} {mem : Mem} {ops : Array Oper} {o : Oper} {rs : List Oper} {d : Nat}
theorem LS.eqNil {T Y e : Nat} {x : Operand} {t : Option Nat} {es : List V} (X : TOk P) {ti : TI} (hg : gd ops env o = some true) (hds : o.dst = some d) (ho : o.op = .binOp .eql T x (.const (.slice none 0 0)) Y) (hx : evo env x = some (.s t es)) (hT : aget X.tab T = some ti) (hdt : ti.d = .sl e) (hd : Nat.blt d N = true)
    (h1 : es = [] → LS P F N ops rs Q ((d, .k (.bool true)) :: env) mem) (h2 : LS P F N ops rs Q ((d, .k (.bool false)) :: env) mem) : LS P F N ops (o :: rs) Q env mem := ⟨fun F0 hxe g a w hr => by
  have hu := (X.get hT).sl hdt
  have hgt : P.eqGuardType P.depth T = false := by
    obtain ⟨m, hm⟩ : ∃ m, P.depth = m + 1 := ⟨2 * (P.types.size + Made.depth) + 1, rfl⟩
    rw [hm]
    simp [Program.eqGuardType, hu]
  have hrun : ∀ (ad : Option Addr) (n c : Nat), a.eval x = .slice ad n c → (execOp a.eval o).run P w = .ok (.value (.bool ad.isNone)) w := fun ad n c h => by
    have q1 : (eqGuard .eql T x (.const (.slice none 0 0)) (.slice ad n c) (.slice none 0 0)).run P w = .ok () w := by
      unfold eqGuard
      simp
    have q2 : (binOp .eql T (.slice ad n c) (.slice none 0 0)).run P w = .ok (.bool ad.isNone) w := by
      have e : Op.equal T (.slice ad n c) (.slice none 0 0) = Op.equalIn (9999 + 1) T (.slice ad n c) (.slice none 0 0) := rfl
      have q3 : (Op.equalIn (9999 + 1) T (.slice ad n c) (.slice none 0 0)).run P w = .ok ad.isNone w := by
        rw [Op.equalIn, Sem.run_bind, run_underlying hu w]
        cases ad <;> rfl
      simp only [binOp, e, Sem.run_bind, q3, Result.andThen_ok]
      rfl
    have hx2 : a.eval (.const (.slice none 0 0)) = .slice none 0 0 := rfl
    simp only [execOp, ho, h, hx2, Sem.run_bind, q1, Result.andThen_ok, q2]
    rfl
  have hdd : dok o.dst N = true := by rw [hds]; exact hd
  have hrep := hr.evo hx
  refine wpListIn_step fun K hK => ?_
  rw [gd_wanted hr hg, if_pos rfl]
  have go : ∀ b : Bool, (execOp a.eval o).run P w = .ok (.value (.bool b)) w → LS P F N ops rs Q ((d, .k (.bool b)) :: env) mem → o.wpIn F0.fz 0 P a w K (liftQ F0 N Q) := fun b hb hl => by
    refine op_in ?_ (fun c e => by rw [ho] at e; cases e)
    unfold Oper.wp
    rw [hb]
    refine hK _ _ (hl.go F0 hxe g _ w ?_)
    have := hr.put (Ev.refl g w) hr.mem hr.kept (Rep.k (w := w) (g := g) (.bool b)) hdd
    rw [hds] at this
    rw [hds]
    exact this
  generalize hv : a.eval x = v at hrep
  cases hrep with
  | s0 => exact go true (hrun _ _ _ hv) (h1 rfl)
  | se => exact go false (hrun _ _ _ hv) h2
  | s => exact go false (hrun _ _ _ hv) h2⟩
end
theorem LM.row1 {P : Program} {f : Nat} {args es : List V} {E sz n k0 : Nat} (hA : ∀ (ρ : Nat → Nat), args.map (V.ren ρ) = args) (h : LM P f args [] fun o m => o = .ret (.s (some k0) es) ∧ m = [(k0, .r E sz n)]) (k : Nat) : LM P f args [] fun o m => o = .ret (.s (some k) es) ∧ m = [(k, .r E sz n)] :=
  LM.gen [k0] [k] (by simp) (by simp) rfl h fun ρ hρ => by
    simp at hρ
    refine ⟨hA _, rfl, ?_, ?_⟩
    · simp [Out.ren, V.ren, hρ]
    · simp [Mem.ren, M.ren, hρ]
end Lf
open Go.RowKit Rg
namespace Lf
section
variable {P : Program} {o : Oper} {env : Env}
theorem run_appMake {T Tx E ty n : Nat} {kd kx : IntKind} {ei : TI} {w : World} (hu : P.underlying T = some (.slice E)) (hx : P.underlying Tx = some (.int kx)) (hE : TIok P E ei) (hn : 0 < n) (hmax : n ≤ 140737488355328) (hb : n * ei.bytes ≤ 140737488355328) :
    ∃ cs : Array Value, (Builtin.append_ #[T, Tx] ty #[.slice none 0 0, .int kd (n : Int)]).run P w = .ok (.slice (some ⟨w.heap.size, 0, none⟩) n (grownCap w n 0 E)) (w.drew.alloc (.cells cs E)) ∧ cs.size = grownCap w n 0 E * ei.size ∧ n ≤ grownCap w n 0 E ∧ grownCap w n 0 E ≤ maxLen := by
  obtain ⟨i, hi, hsz, hby, z, hz, _, hzs, _⟩ := hE.info
  rw [← hby] at hb
  rw [← hsz] at hzs ⊢
  have hge := grownCap_ge w n 0 E
  have h63 : n ≤ maxLen := by simp only [maxLen]; omega
  have hcm : grownCap w n 0 E ≤ maxLen := grownCap_le_maxLen w n 0 E h63
  have hw : IntKind.i64.wrap (n : Int) = (n : Int) := wrap_i64 (by omega)
  have hfit : Builtin.nextslicecap n 0 * i.bytes ≤ 281474976710656 := by have := growslice_fits (old := 0) (need := n) (by omega) hb; simpa using this
  have h1 : ¬ n = 0 := by omega
  have h2 : ¬ (9223372036854775807 < (n : Int)) := by omega
  have h3 : ¬ (281474976710656 < Builtin.nextslicecap n 0 * i.bytes) := by omega
  have h4 : ¬ (281474976710656 < (n : Int) * (i.bytes : Int)) := by
    have : (n : Int) * (i.bytes : Int) = ((n * i.bytes : Nat) : Int) := by rw [Int.natCast_mul]
    rw [this]; omega
  have h5 : ¬ ((n : Int) < 0) := by omega
  refine ⟨#[] ++ Builtin.zeroCells z.cells n ++ Builtin.zeroCells z.cells (grownCap w n 0 E - n), ?_, ?_, hge, hcm⟩
  · simp [Builtin.append_, run_underlying hu, run_underlying hx, sizeOf, typeInfo, zeroValue, hi, hz, asInt, asIntOf, hw, h1, h2, h3, h4, h5, Question.forced, newRow, grownCap, Builtin.firstCells]
    intro h
    have : Builtin.zeroCells z.cells n = #[] := Array.eq_empty_of_size_eq_zero (by rw [size_zeroCells, hzs]; exact h)
    rw [this]
    simp
  · simp only [Array.size_append, List.size_toArray, List.length_nil, size_zeroCells, hzs, Nat.zero_add, ← Nat.add_mul]
    congr 1
    omega
theorem drew_rel {F : Fr0} {g : Gh} {w : World} {mem : Mem} (h : RelM F g mem w) (hk : Kept F g w) : Ev g w g w.drew ∧ RelM F g mem w.drew ∧ Kept F g w.drew :=
  h.ext hk (Below.refl w.heap.size w).drew (fun _ _ _ => Iff.rfl) rfl rfl fun b o hb => h.fut b o hb
theorem Does.appMake {T Tx E i n : Nat} {kd kx : IntKind} {x y : Operand} {z : Int} (X : TOk P) {ti xi ei : TI} (ho : o.op = .call { callee := .builtin .append, args := #[x, y], argTypes := #[T, Tx] }) (hx : evo env x = some .nil) (hy : evo env y = some (.k (.int kd z))) (hz : z = ((n : Nat) : Int)) (hT : aget X.tab T = some ti) (hd : ti.d = .sl E) (hX : aget X.tab Tx = some xi) (hdx : xi.d = .int kx) (hE : aget X.tab E = some ei) (hpos : Nat.blt 0 ei.size = true)
    (hn : 0 < n) (hmax : n ≤ 140737488355328) (hb : n * ei.bytes ≤ 140737488355328) : Does P o env (.w i 0 ei.size 0 n) [(i, none, some (.w E ei.size 0 []))] := by
  subst hz
  refine ⟨fun F g a w mem h1 h2 h3 h4 _ K Q hK => ?_⟩
  have hi := h4 _ _ _ mem_one
  have hrx := h1 x (by simp [ho, Op.operands, Call.operands]) _ hx
  have hry := rep_k (h1 y (by simp [ho, Op.operands, Call.operands]) _ hy)
  have hxe : a.eval x = .slice none 0 0 := by generalize a.eval x = v at hrx; cases hrx; rfl
  obtain ⟨cs, hrun, hcs, hle, hcm⟩ := run_appMake (P := P) (ty := o.type) (kd := kd) (w := w) ((X.get hT).sl hd) ((X.get hX).int hdx) (X.get hE) hn hmax hb
  obtain ⟨d1, d2, d3⟩ := drew_rel h2 h3
  have hpos' : 0 < ei.size := Nat.le_of_ble_eq_true hpos
  have hH : w.drew.heap.size = w.heap.size := rfl
  have hrw : (g.newR i w.drew.heap.size 0 0 (grownCap w n 0 E)).rw i = some (some w.drew.heap.size, 0, grownCap w n 0 E) := by simp [Gh.newR]
  have hown : (w.drew.alloc (.cells cs E)).oRow 0 E ei.size (.slice (some ⟨w.drew.heap.size, 0, none⟩) 0 (grownCap w n 0 E)) 0 [] :=
    ⟨by simp, .inr ⟨w.drew.heap.size, grownCap w n 0 E, cs, _, rfl, Nat.zero_le _, heap_alloc_new w.drew _, Nat.zero_le _, hcm, hcs, by simp, .inl rfl⟩⟩
  obtain ⟨e1, e2, e3⟩ := d2.newR d3 (i := i) (n := 0) (l := 0) (c := grownCap w n 0 E) (m' := .w E ei.size 0 []) (o := .cells cs E) hi (.w hrw ⟨hpos', by simp, ⟨[], hown, by simp⟩, fun b hb o hS => by cases hb; have := hS.2 rfl; omega⟩) fun b o' ⟨l, c', hp'⟩ => by rw [hrw] at hp'; cases hp'; rfl
  unfold Oper.wp
  have hrun' : (execOp a.eval o).run P w = .ok (.value (.slice (some ⟨w.heap.size, 0, none⟩) n (grownCap w n 0 E))) (w.drew.alloc (.cells cs E)) := by
    simp [execOp, ho, resolve, invoke, builtin, hxe, hry, hrun]
  rw [hrun']
  exact hK _ _ _ (d1.trans e1) e2 e3 (.w ⟨_, _, _, hrw, Nat.le_refl _, fun _ => ⟨by omega, by omega, fun _ => by simp [hH]⟩⟩)
theorem Does.cutW0 {T E i n e : Nat} {x : Operand} {hi : Option Operand} {es : List V} (X : TOk P) {ti ei : TI} (ho : o.op = .slice T x none hi none) (hx : evo env x = some (.w i 0 ei.size 0 n)) (hT : aget X.tab T = some ti) (hd : ti.d = .sl e) (hE : aget X.tab e = some ei) (hhi : Bd env n hi 0) :
    Does P o env (.s (some i) []) [(i, some (.w E ei.size 0 es), some (.r E ei.size 0))] := by
  refine ⟨fun F g a w mem h1 h2 h3 h4 _ K Q hK => ?_⟩
  have hi' := h4 _ _ _ mem_one
  have hrx := h1 x (by simp [ho, Op.operands]) _ hx
  have b2 := hhi.val (a := a) (fun y hy u hu => h1 y (by subst hy; simp [ho, Op.operands]) u hu)
  obtain ⟨ao, c, hrw, hB⟩ := h2.buf hi'
  obtain ⟨xs, hown, _⟩ := hB.own
  generalize hv : a.eval x = v at hrx
  cases hrx with
  | @w _ _ _ _ _ _ ad cap h =>
    obtain ⟨a', l, c', k1, k2, k3⟩ := h
    rw [hrw] at k1; cases k1
    obtain ⟨w1, w2, w3⟩ := k3 rfl
    have hcap : cap = c := by omega
    subst hcap
    have had := w3 (.inr rfl)
    simp only [Nat.zero_mul] at had
    have hcut := run_cutG (P := P) (a := ad) (n := n) (cap := cap) ((X.get hT).sl hd) (X.get hE).run_size (.inl ⟨rfl, rfl⟩) b2 (Nat.zero_le _) (Nat.zero_le _) w
    have hres : (if cap = 0 then ad else ad.map (·.add (0 * ei.size))) = ad := by
      split
      · rfl
      · rw [had]; cases ao <;> simp [Addr.add_lit]
    have hown0 : w.oRow 0 E ei.size (.slice (ao.map fun b => ⟨b, 0, none⟩) 0 cap) 0 [] := by
      refine ⟨by simp, ?_⟩
      rcases hown.2 with ⟨hv', _⟩ | ⟨q, cp, cur, fz, hv', hb0, hq, hnc, hcm, hcs, htk, hfz⟩
      · cases ao with
        | none => simp at hv'; exact .inl ⟨by simp [hv'.2], rfl⟩
        | some b => simp at hv'
      · cases ao with
        | none => simp at hv'
        | some b =>
          simp at hv'
          obtain ⟨rfl, rfl⟩ := hv'
          exact .inr ⟨b, cap, cur, fz, rfl, hb0, hq, Nat.zero_le _, hcm, hcs, by simp, hfz⟩
    obtain ⟨k1, k2⟩ := h2.step h3 (i := i) (m' := .r E ei.size 0) (Ev.refl g w) rfl rfl rfl (fun _ _ _ _ => ⟨rfl, rfl, fun h => h⟩) (fun _ _ _ => rfl) (fun _ _ => rfl) (fun _ _ => rfl) (.r hrw ⟨hB.pos, ⟨[], hown0⟩, fun b hb o _ => hB.free b hb o⟩) (fun b o hp => .inl ⟨_, hi', hp⟩) h2.fut
    unfold Oper.wp
    have hrun' : (execOp a.eval o).run P w = .ok (.value (.slice ad 0 cap)) w := by
      rw [hres] at hcut
      simp [execOp, ho, hv, hcut]
    rw [hrun']
    refine hK _ g w (Ev.refl g w) k1 k2 ?_
    have := Rep.row (es := []) (n := 0) (i := i) rfl hB.pos hrw hown0 (fun b hb => ?_) (by simp) (by simp)
    · rw [had]; exact this
    · subst hb; exact ⟨hB.lt rfl, fun o ho => by omega⟩
end
end Lf
open Go.RowKit Rg
set_option linter.unusedVariables false
set_option maxRecDepth 100000
namespace Lf
theorem Does.capNil {P : Program} {o : Oper} {env : Env} {x : Operand} {T : Nat} {ts : Array Nat} {e : Nat} (X : TOk P) {ti : TI} (ho : o.op = .call { callee := .builtin .cap, args := #[x], argTypes := ts }) (hts : ts[0]? = some T) (hx : evo env x = some .nil) (hT : aget X.tab T = some ti) (hd : ti.d = .sl e) : Does P o env (.k (.int .i64 ((0 : Nat) : Int))) [] :=
  .pure fun F g a w mem hr _ => by
    have hr0 := hr x (by simp [ho, Op.operands, Call.operands]) _ hx
    have hxe : a.eval x = .slice none 0 0 := by generalize a.eval x = v at hr0; cases hr0; rfl
    exact ⟨.int .i64 ((0 : Nat) : Int), by simp [execOp, ho, resolve, invoke, builtin, hxe, Builtin.cap_, hts, run_underlying ((X.get hT).sl hd), goInt], .k _⟩
theorem Does.cutNil {P : Program} {o : Oper} {env : Env} {T e : Nat} {x : Operand} {hi : Option Operand} (X : TOk P) {ti ei : TI} (ho : o.op = .slice T x none hi none) (hx : evo env x = some .nil) (hT : aget X.tab T = some ti) (hd : ti.d = .sl e) (hE : aget X.tab e = some ei) (hhi : Bd env 0 hi 0) : Does P o env .nil [] :=
  .pure fun F g a w mem hr _ => by
    have hr0 := hr x (by simp [ho, Op.operands]) _ hx
    have hxe : a.eval x = .slice none 0 0 := by generalize a.eval x = v at hr0; cases hr0; rfl
    have b2 := hhi.val (a := a) (fun y hy u hu => hr y (by subst hy; simp [ho, Op.operands]) u hu)
    have := run_cutG (P := P) (a := none) (n := 0) (cap := 0) ((X.get hT).sl hd) (X.get hE).run_size (.inl ⟨rfl, rfl⟩) b2 (Nat.zero_le _) (Nat.zero_le _) w
    rw [hxe] at hr0
    refine ⟨.slice none 0 0, ?_, hr0⟩
    simp [execOp, ho, hxe, this]
theorem LM.nilrow {P : Program} {f : Nat} {args : List V} (E sz k : Nat) (hp : Nat.blt 0 sz = true) (h : LM P f args [] fun o m => o = .ret .nil ∧ m = []) : LM P f args [] fun o m => o = .ret (.s (some k) []) ∧ m = [(k, .r E sz 0)] :=
  ⟨h.ok, fun g w vals h1 h2 h3 => Calls.mono (h.go g w vals h1 h2 h3) fun e w' ⟨o, mo, g', ⟨ho, hm⟩, hev, hrel, hk, hat⟩ => by
    subst ho; subst hm
    have hown0 : w'.oRow 0 E sz (.slice (Option.map (fun b => (⟨b, 0, none⟩ : Addr)) none) 0 0) 0 [] := oRow_nil w' 0 E sz
    have hgi : (g'.addRow k (none, 0, 0)).rw k = some (none, 0, 0) := by simp [Gh.addRow]
    obtain ⟨he, r2, r3⟩ := hrel.nilRow hk (i := k) (m := .r E sz 0) rfl (.r hgi ⟨Nat.le_of_ble_eq_true hp, ⟨_, hown0⟩, fun _ h => by cases h⟩) fun b o ⟨l, c, hp⟩ => by rw [hgi] at hp; cases hp
    obtain ⟨x, hx, hrep⟩ := hat
    cases hrep
    exact ⟨_, _, _, ⟨rfl, rfl⟩, hev.trans he, r2, r3, ⟨_, hx, .s0 fun r hr' => by cases hr'; exact ⟨none, 0, 0, hgi, Nat.le_refl _, fun _ => .inl rfl⟩⟩⟩⟩
end Lf
open Go.RowKit Rg
set_option linter.unusedVariables false
set_option maxRecDepth 100000
namespace Lf
abbrev bV (l : List UInt8) : V := .s none (l.map bK)
theorem flat_take {α : Type} {ls : List (List α)} {i : Nat} (h : i < ls.length) : (ls.take (i + 1)).flatten = (ls.take i).flatten ++ ls.getD i default := by
  rw [List.take_succ_eq_append_getElem h, List.flatten_append]
  simp [List.getD, h]
theorem flat_takeL {α : Type} {ls : List (List α)} {i : Nat} (h : i < ls.length) : (ls.take (i + 1)).flatten.length = (ls.take i).flatten.length + (ls.getD i default).length := by rw [flat_take h, List.length_append]
theorem flat_le {α : Type} {ls : List (List α)} {i : Nat} : (ls.take i).flatten.length ≤ ls.flatten.length := by
  have e : ls = ls.take i ++ ls.drop i := (List.take_append_drop i ls).symm
  have : ls.flatten.length = (ls.take i).flatten.length + (ls.drop i).flatten.length := by
    rw [← List.length_append, ← List.flatten_append, List.take_append_drop]
  omega
end Lf
end Go.Proofs.Ytgjoecocahpfhaa
