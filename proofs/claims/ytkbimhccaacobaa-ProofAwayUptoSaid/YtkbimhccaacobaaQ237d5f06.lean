/- A part of the proof: texts joined. -/
import Derived.Test.YtkbimhccaacobaaQ224ca6c6
namespace Go.Proofs.Ytkbimhccaacobaa
open Go.RowKit Rg
set_option linter.unusedVariables false
set_option maxRecDepth 100000
namespace Lf
namespace Sr
theorem turnUp (x : UInt64) (k : Nat) (hk : k < 64) : LF Try.prog 120 [qK x, .k (.int .i64 (k : Int))] (fun _ => qK (rotl x k)) none := by
  have h0 := x.toNat_lt
  unfold qK
  refine LFx.mk' tt Try.func120 rfl rfl rfl (by kernel_rfl) rfl rfl fun F => ?_
  refine wk ?_ trueW trueW
  refine LC.loop2 (fun i X => [(0, uK X), (5, .k (.int .i64 ((k : Nat) : Int))), (6, .k (.int .i64 ((i : Nat) : Int)))]) (fun i X => []) (fun i X => i ≤ k ∧ X = (rotl x i).toNat) ((k - ·)) (0) (x.toNat) ⟨by omega, (rotl_zero x).symm⟩ ⟨rfl, rfl, rfl, trivial⟩ trivial rfl rfW rfW ?_
  rintro i X ⟨hi, hX⟩
  have hX' : X < 18446744073709551616 := by rw [hX]; exact (rotl x i).toNat_lt
  by_cases h : i < k
  · have hr := rotl_succ x (k := i) (by omega)
    rw [← hX] at hr
    have w1 : IntKind.u64.wrap ((X : Int) * 2) = ((X * 2 % 2 ^ 64 : Nat) : Int) := mul_u64m
    have hlt : X * 2 % 2 ^ 64 + X / 9223372036854775808 < 18446744073709551616 := by
      have : X * 2 % 2 ^ 64 + X / 2 ^ 63 < 18446744073709551616 := by rw [← hr]; exact (rotl x (i + 1)).toNat_lt
      simpa using this
    have hok : i + 1 ≤ k ∧ X * 2 % 2 ^ 64 + X / 9223372036854775808 = (rotl x (i + 1)).toNat := ⟨h, by rw [hr]⟩
    have hd : X / 9223372036854775808 < 18446744073709551616 := Nat.lt_of_le_of_lt (Nat.div_le_self _ _) hX'
    clear hr hX
    generalize X * 2 % 2 ^ 64 = y at *
    exact wk trueW trueW trueW
  · obtain rfl : i = k := by omega
    subst hX
    exact wk trueW trueW trueW
theorem SMix (s : List UInt64) (hs : s.length = 8) : LF Try.prog 94 [.a (s.map qK)] (fun _ => .a ((mixQ s).map qK)) none := by
  have c1 := turnUp
  refine LFx.mk' tt Try.func94 rfl rfl rfl (by kernel_rfl) rfl rfl fun F => ?_
  refine wk ?_ trueW trueW
  refine LC.loop2 (fun r S => [(1, .p 1 0), (2, .p 2 0), (3, .sb 1 0 8 8), (4, uK (r + 1))]) (fun r S => [(1, .b (S.map qK)), (2, .b (List.replicate 8 (.k (.int .u64 0))))]) (fun r S => r ≤ 12 ∧ S = iter qround s r) ((12 - ·)) (0) (s) ⟨by omega, rfl⟩ ⟨rfl, rfl, rfl, rfl, trivial⟩ ⟨rfl, rfl, trivial⟩ rfl rfW rfW ?_
  rintro r S ⟨hr, hS⟩
  have hl : S.length = 8 := hS ▸ (iter_len qround_len s r).trans hs
  by_cases h : r < 12
  · refine wk ?_ trueW trueW
    refine LC.loop5 (fun i S2 n (_u3 : Unit) (_u4 : Unit) => [(1, .p 1 0), (2, .p 2 0), (3, .sb 1 0 8 8), (4, uK (r + 1)), (5, .k (.int .i64 ((i : Nat) : Int))), (6, .k (.int .i64 ((n : Nat) : Int)))]) (fun i S2 n (_u3 : Unit) (_u4 : Unit) => [(1, .b (S2.map qK)), (2, .b (List.replicate 8 (.k (.int .u64 0))))]) (fun i S2 n (_u3 : Unit) (_u4 : Unit) => i ≤ 8 ∧ S2 = iter qstep (qkey S r) i ∧ n = 5 * i + 3) ((8 - ·)) (0) (qkey S r) (3) () () ⟨by omega, rfl, rfl⟩ ⟨rfl, rfl, rfl, rfl, rfl, rfl, trivial⟩ ⟨rfl, rfl, trivial⟩ rfl rfW rfW ?_
    rintro i S2 n _ _ ⟨hi, hS2, hn⟩
    have hl2 : S2.length = 8 := hS2 ▸ (iter_len qstep_len _ i).trans ((qkey_len S r).trans hl)
    by_cases h2 : i < 8
    · have hok : i + 1 ≤ 8 ∧ S2.set (0 + i) (S2.getD (0 + i) default + rotl (S2.getD (0 + (i + 1) % 8) default ^^^ S2.getD (0 + (i + 5) % 8) default) n) = iter qstep (qkey S r) (i + 1) ∧ n + 5 = 5 * (i + 1) + 3 := ⟨h2, by simp only [Nat.zero_add]; rw [hS2, hn]; rfl, by omega⟩
      have w1 : IntKind.i64.wrap (((BitVec.ofInt IntKind.i64.bits ((i + 1 : Nat) : Int) &&& BitVec.ofInt IntKind.i64.bits 7).toNat : Nat) : Int) = (((i + 1) % 8 : Nat) : Int) := by
        rw [and_i64r (b := 7) (by omega) (by decide)]
        exact congrArg _ (Nat.and_two_pow_sub_one_eq_mod (n := 3) (i + 1))
      have w2 : IntKind.i64.wrap (((BitVec.ofInt IntKind.i64.bits ((i + 5 : Nat) : Int) &&& BitVec.ofInt IntKind.i64.bits 7).toNat : Nat) : Int) = (((i + 5) % 8 : Nat) : Int) := by
        rw [and_i64r (b := 7) (by omega) (by decide)]
        exact congrArg _ (Nat.and_two_pow_sub_one_eq_mod (n := 3) (i + 5))
      have m1 : (i + 1) % 8 < 8 := Nat.mod_lt _ (by decide)
      have m2 : (i + 5) % 8 < 8 := Nat.mod_lt _ (by decide)
      have m3 : n < 64 := by omega
      clear hS2 hn
      exact wk trueW trueW trueW
    · obtain rfl : i = 8 := by omega
      have hok : r + 1 ≤ 12 ∧ S2 = iter qround s (r + 1) := ⟨h, by rw [hS2, hS]; exact (show iter qround s (r + 1) = qround (iter qround s r) r from rfl).symm⟩
      clear hS2 hS
      exact wk trueW trueW trueW
  · obtain rfl : r = 12 := by omega
    have hv : mixQ s = S := by rw [hS, mixQ_eq]
    rw [hv]
    clear hv hS
    exact wk trueW trueW trueW
end Sr
end Lf
open Go.RowKit Rg
set_option linter.unusedVariables false
set_option maxRecDepth 100000
namespace Lf
namespace Sr
def blocks (b : List UInt8) : Nat := b.length / 32 + 1 + (if b.length % 32 = 31 then 1 else 0)
theorem pad_blocks (b : List UInt8) : (padB b).length = 32 * blocks b := by
  rw [padB_len]
  unfold blocks
  split <;> omega
theorem pad_set (b : List UInt8) : ((put (List.replicate (32 * blocks b) 0) 0 b).set b.length (UInt8.ofNat 1)).set (32 * blocks b - 1) (UInt8.ofNat 128) = padB b := by
  have hl : b.length + 2 ≤ 32 * blocks b := by unfold blocks; split <;> omega
  have hp := pad_blocks b
  rw [padB_len] at hp
  have e5 : padB b = b ++ [1] ++ List.replicate (31 - (b.length + 1) % 32) 0 ++ [128] := by unfold padB padZ; rfl
  rw [e5]
  generalize 31 - (b.length + 1) % 32 = z at *
  have e1 : put (List.replicate (32 * blocks b) 0) 0 b = b ++ List.replicate (32 * blocks b - b.length) 0 := by
    unfold put
    rw [List.take_zero, List.nil_append, Nat.zero_add, List.drop_replicate]
  have e2 : 32 * blocks b - b.length = z + 1 + 1 := by omega
  rw [e1, e2, List.replicate_succ, List.set_append_right _ _ (Nat.le_refl _), Nat.sub_self, List.set_cons_zero]
  have e3 : b ++ (UInt8.ofNat 1) :: List.replicate (z + 1) 0 = (b ++ [1] ++ List.replicate z 0) ++ [0] := by
    rw [List.replicate_succ']
    simp
  rw [e3, List.set_append_right _ _ (by simp; omega)]
  have e4 : 32 * blocks b - 1 - (b ++ [1] ++ List.replicate z 0).length = 0 := by simp; omega
  rw [e4]
  rfl
theorem SPad (b : List UInt8) (hb : b.length < 1073741824) : LF Try.prog 93 [.s none (b.map bK)] (fun _ => .s none ((padB b).map bK)) none := by
  have hp := pad_set b
  have hfz : FrzAt 2 17 := ⟨⟩
  have hl : b.length + 2 ≤ 32 * blocks b := by unfold blocks; split <;> omega
  have hm : 32 * blocks b ≤ b.length + 64 := by unfold blocks; split <;> omega
  have q1 : (put (List.replicate (32 * blocks b) (0 : UInt8)) 0 b).length = 32 * blocks b := by rw [put_len (by simp; omega)]; simp
  have q0 : (List.replicate (32 * blocks b) (0 : UInt8)).length = 32 * blocks b := List.length_replicate
  by_cases h : b.length % 32 = 31
  · have e : 32 * blocks b = (b.length / 32 + 1) * 32 + 32 := by unfold blocks; rw [if_pos h]; omega
    rw [e] at hp hl hm q1 q0
    have q2 : (((put (List.replicate ((b.length / 32 + 1) * 32 + 32) (0 : UInt8)) 0 b).set b.length (UInt8.ofNat 1)).set ((b.length / 32 + 1) * 32 + 32 - 1) (UInt8.ofNat 128)).length = (b.length / 32 + 1) * 32 + 32 := by rw [List.length_set, List.length_set]; exact q1
    rw [← hp]
    clear hp e
    refine LFx.mk' tt Try.func93 rfl rfl rfl (by kernel_rfl) rfl rfl fun F => ?_
    exact wk trueW trueW trueW
  · have e : 32 * blocks b = (b.length / 32 + 1) * 32 := by unfold blocks; rw [if_neg h]; omega
    rw [e] at hp hl hm q1 q0
    have q2 : (((put (List.replicate ((b.length / 32 + 1) * 32) (0 : UInt8)) 0 b).set b.length (UInt8.ofNat 1)).set ((b.length / 32 + 1) * 32 - 1) (UInt8.ofNat 128)).length = (b.length / 32 + 1) * 32 := by rw [List.length_set, List.length_set]; exact q1
    rw [← hp]
    clear hp e
    refine LFx.mk' tt Try.func93 rfl rfl rfl (by kernel_rfl) rfl rfl fun F => ?_
    exact wk trueW trueW trueW
end Sr
end Lf
open Go.RowKit Rg
set_option linter.unusedVariables false
set_option maxRecDepth 100000
namespace Lf
namespace Sr
theorem stR_len (p : List UInt8) (i : Nat) : (stR p i).length = 8 := by unfold stR; rw [iter_len (blkQ_len p)]; rfl
theorem sum_ref (b : List UInt8) : iter (outStep (stR (padB b) (blocks b))) (List.replicate 32 0) 32 = sumB b := (sumB_ref b (pad_blocks b)).symm
set_option maxHeartbeats 4000000 in
theorem SSum (b : List UInt8) (hb : b.length < 1073741824) : LF Try.prog 54 [.s none (b.map bK)] (fun _ => .a ((sumB b).map bK)) none := by
  have c1 := SPad b hb
  have hp := pad_blocks b
  have hs := fun _ : Unit => sum_ref b
  have hm : 32 * blocks b ≤ b.length + 64 := by unfold blocks; split <;> omega
  generalize blocks b = m at *
  generalize padB b = p at *
  generalize sumB b = out at *
  have c2 := SMix
  refine LFx.mk' tt Try.func54 rfl rfl rfl (by kernel_rfl) rfl rfl fun F => ?_
  refine wk ?_ trueW trueW
  refine LC.loop5 (fun i S a (_u3 : Unit) (_u4 : Unit) => [(2, .p 2 0), (3, .p 3 0), (4, .s none (p.map bK)), (5, .k (.int .i64 ((a : Nat) : Int)))]) (fun i S a (_u3 : Unit) (_u4 : Unit) => [(2, .b (List.replicate 32 (.k (.int .u8 0)))), (3, .b (S.map qK))]) (fun i S a (_u3 : Unit) (_u4 : Unit) => i ≤ m ∧ S = stR p i ∧ a = 32 * i) ((m - ·)) (0) (List.replicate 8 0) (0) () () ⟨by omega, rfl, rfl⟩ ⟨rfl, rfl, rfl, rfl, trivial⟩ ⟨rfl, rfl, trivial⟩ rfl rfW rfW ?_
  rintro i S a _ _ ⟨hi, hS, ha⟩
  have hl : S.length = 8 := by rw [hS]; exact stR_len p i
  by_cases h : i < m
  · refine wk ?_ trueW trueW
    refine LC.loop2 (fun k S2 => [(2, .p 2 0), (3, .p 3 0), (4, .s none (p.map bK)), (5, .k (.int .i64 ((a : Nat) : Int))), (17, .k (.int .i64 ((k : Nat) : Int)))]) (fun k S2 => [(2, .b (List.replicate 32 (.k (.int .u8 0)))), (3, .b (S2.map qK))]) (fun k S2 => k ≤ 32 ∧ S2 = iter (absB p a) S k) ((32 - ·)) (0) (S) ⟨by omega, rfl⟩ ⟨rfl, rfl, rfl, rfl, rfl, trivial⟩ ⟨rfl, rfl, trivial⟩ rfl rfW rfW ?_
    rintro k S2 ⟨hk, hS2⟩
    have hl2 : S2.length = 8 := by rw [hS2, iter_len (absB_len p a)]; exact hl
    by_cases h2 : k < 32
    · have hok : k + 1 ≤ 32 ∧ S2.set (k / 8) (S2.getD (k / 8) default ^^^ UInt64.ofNat ((p.getD (a + k) default).toNat * 2 ^ (k % 8 * 8) % 2 ^ 64)) = iter (absB p a) S (k + 1) := ⟨h2, by rw [hS2]; rfl⟩
      have q1 : k / 8 < 8 := by omega
      have q2 : k % 8 * 8 ≤ 56 := by omega
      have q3 := (p.getD (a + k) default).toNat_lt
      clear hS hS2 hs
      exact wk trueW trueW trueW
    · obtain rfl : k = 32 := by omega
      have c3 := SMix S2 hl2
      have hok : i + 1 ≤ m ∧ mixQ S2 = stR p (i + 1) ∧ a + 32 = 32 * (i + 1) := ⟨h, by rw [hS2, hS, ha]; rfl, by omega⟩
      have hml : (mixQ S2).length = 8 := (mixQ_len S2).trans hl2
      clear hS hS2 hs c2
      generalize mixQ S2 = S3 at *
      exact wk trueW trueW trueW
  · obtain rfl : i = m := by omega
    have hs' : ∀ _ : Unit, iter (outStep S) (List.replicate 32 0) 32 = out := fun u => by rw [hS]; exact hs u
    clear hs hS
    refine wk ?_ trueW trueW
    refine LC.loop2 (fun k L => [(2, .p 2 0), (3, .p 3 0), (7, .p 7 0), (40, .k (.int .i64 ((k : Nat) : Int)))]) (fun k L => [(2, .b (List.replicate 32 (.k (.int .u8 0)))), (3, .b (S.map qK)), (7, .b (L.map bK))]) (fun k L => k ≤ 32 ∧ L = iter (outStep S) (List.replicate 32 0) k) ((32 - ·)) (0) ((List.replicate 32 0)) ⟨by omega, rfl⟩ ⟨rfl, rfl, rfl, rfl, trivial⟩ ⟨rfl, rfl, rfl, trivial⟩ rfl rfW rfW ?_
    rintro k L ⟨hk, hL⟩
    have hlL : L.length = 32 := by rw [hL, iterB_len (outStep_len S)]; rfl
    by_cases h2 : k < 32
    · have hok : k + 1 ≤ 32 ∧ L.set k (UInt8.ofNat ((S.getD (k / 8) default).toNat / 2 ^ (k % 8 * 8))) = iter (outStep S) (List.replicate 32 0) (k + 1) := ⟨h2, by rw [hL]; rfl⟩
      have q1 : k / 8 < 8 := by omega
      have q2 : k % 8 * 8 ≤ 56 := by omega
      clear hL hs'
      exact wk trueW trueW trueW
    · obtain rfl : k = 32 := by omega
      rw [hs' ()] at hL
      rw [← hL]
      clear hL hs'
      exact wk trueW trueW trueW
end Sr
end Lf
open Go.RowKit Rg
set_option linter.unusedVariables false
set_option maxRecDepth 100000
namespace Lf
theorem mapTyH : MapTy Try.prog 114 34 (.int .i64 0) := ⟨⟨3, by kernel_rfl, fun w => by kernel_rfl⟩, lawH⟩
def hE (E : List (List UInt8 × Nat)) : List (Value × V) := E.map fun p => (hashK p.1, .k (.int .i64 ((p.2 : Nat) : Int)))
theorem hget_no {E : List (List UInt8 × Nat)} {h : List UInt8} {y0 : V} (hn : ∀ p ∈ E, p.1 ≠ h) : MGetO (hE E) (hashK h) y0 y0 false := ⟨fun _ => ⟨rfl, rfl⟩, fun p hp e => by
  obtain ⟨q, hq, rfl⟩ := List.mem_map.1 hp
  exact absurd (hashK_inj e) (hn q hq)⟩
theorem hget_yes {E : List (List UInt8 × Nat)} {h : List UInt8} {k : Nat} {y0 : V} (hu : ∀ p ∈ E, ∀ q ∈ E, p.1 = q.1 → p = q) (hm : (h, k) ∈ E) : MGetO (hE E) (hashK h) y0 (.k (.int .i64 ((k : Nat) : Int))) true := ⟨fun h1 => absurd rfl (h1 (hashK h, .k (.int .i64 ((k : Nat) : Int))) (List.mem_map.2 ⟨(h, k), hm, rfl⟩)), fun p hp e => by
  obtain ⟨q, hq, rfl⟩ := List.mem_map.1 hp
  have e2 := hashK_inj e
  have := hu q hq (h, k) hm e2
  subst this
  exact ⟨rfl, rfl⟩⟩
theorem hks {E : List (List UInt8 × Nat)} (h : ∀ p ∈ E, p.1.length = 32) : KeysV Try.prog 34 (hE E) := ⟨fun p hp => by
  obtain ⟨q, hq, rfl⟩ := List.mem_map.1 hp
  exact key_hashK (h q hq)⟩
theorem hno {E : List (List UInt8 × Nat)} {h : List UInt8} (hn : ∀ p ∈ E, p.1 ≠ h) : MNo (hE E) (hashK h) := ⟨fun p hp e => by
  obtain ⟨q, hq, rfl⟩ := List.mem_map.1 hp
  exact hn q hq (hashK_inj e)⟩
theorem hE_snoc (E : List (List UInt8 × Nat)) (h : List UInt8) (k : Nat) : hE E ++ [(hashK h, .k (.int .i64 ((k : Nat) : Int)))] = hE (E ++ [(h, k)]) := by
  unfold hE; rw [List.map_append]; rfl
def Clashes (ts : List (List UInt8)) : Prop := ∃ a ∈ ts, ∃ b ∈ ts, sumB a = sumB b ∧ a ≠ b
structure ClashAt (ts : List (List UInt8)) (i : Nat) (E : List (List UInt8 × Nat)) : Prop where
  one : ∀ p ∈ E, ∀ q ∈ E, p.1 = q.1 → p = q
  at_ : ∀ p ∈ E, p.2 < i ∧ p.1 = sumB (ts.getD p.2 default)
  all : ∀ j, j < i → ∃ p ∈ E, p.1 = sumB (ts.getD j default) ∧ ts.getD p.2 default = ts.getD j default
theorem ClashAt.len {ts : List (List UInt8)} {i : Nat} {E : List (List UInt8 × Nat)} (h : ClashAt ts i E) : ∀ p ∈ E, p.1.length = 32 := fun p hp => by rw [(h.at_ p hp).2]; exact sumB_len _
theorem ClashAt.no {ts : List (List UInt8)} {E : List (List UInt8 × Nat)} (h : ClashAt ts ts.length E) : ¬ Clashes ts := by
  rintro ⟨a, ha, b, hb, h1, h2⟩
  obtain ⟨i, hi, ei⟩ := List.mem_iff_getElem.1 ha
  obtain ⟨j, hj, ej⟩ := List.mem_iff_getElem.1 hb
  have gi : ts.getD i default = a := by rw [List.getD_eq_getElem?_getD, List.getElem?_eq_getElem hi]; exact ei
  have gj : ts.getD j default = b := by rw [List.getD_eq_getElem?_getD, List.getElem?_eq_getElem hj]; exact ej
  obtain ⟨p, p1, p2, p3⟩ := h.all i hi
  obtain ⟨q, q1, q2, q3⟩ := h.all j hj
  rw [gi] at p2 p3
  rw [gj] at q2 q3
  have := h.one p p1 q q1 (by rw [p2, q2, h1])
  subst this
  exact h2 (p3.symm.trans q3)
namespace Sr
theorem neS_t {a b : List UInt8} (h : a ≠ b) : arithS .neq ⟨a.toArray⟩ ⟨b.toArray⟩ = some (.bool true) := by
  simp only [arithS, ByteArray.toList_mk]
  simp [h]
theorem neS_f (a : List UInt8) : arithS .neq ⟨a.toArray⟩ ⟨a.toArray⟩ = some (.bool false) := by
  simp only [arithS, ByteArray.toList_mk]
  simp
set_option maxHeartbeats 2000000 in
theorem Clash_ (ts : List (List UInt8)) (hn : ts.length < 1073741824) (ht : ∀ t ∈ ts, t.length < 1073741824) :
    (Clashes ts → LF Try.prog 24 [.s none (ts.map fun l => .s none (l.map bK))] (fun _ => .k (.bool true)) none) ∧
    (¬ Clashes ts → LF Try.prog 24 [.s none (ts.map fun l => .s none (l.map bK))] (fun _ => .k (.bool false)) none) := by
  have main : ∀ r : Bool, (r = true ↔ Clashes ts) → LF Try.prog 24 [.s none (ts.map fun l => .s none (l.map bK))] (fun _ => .k (.bool r)) none := by
    intro r hr
    have hM := mapTyH
    refine LFx.mk' tt Try.func24 rfl rfl rfl (by kernel_rfl) rfl rfl fun F => ?_
    refine wk ?_ trueW trueW
    refine LC.loop2 (fun i E => [(0, .s none (ts.map fun l => .s none (l.map bK))), (3, .mp 9), (10, .s none (ts.map fun l => .s none (l.map bK))), (11, .k (.int .i64 ((ts.length : Nat) : Int))), (12, .k (.int .i64 ((i : Nat) : Int)))]) (fun i E => [(9, .m (hE E))]) (fun i E => i ≤ ts.length ∧ ClashAt ts i E) ((ts.length - ·)) (0) ([]) ⟨by omega, ⟨by simp, by simp, fun j h => by omega⟩⟩ ⟨rfl, rfl, rfl, rfl, rfl, trivial⟩ ⟨rfl, trivial⟩ rfl rfW rfW ?_
    rintro i E ⟨hi, hC⟩
    by_cases h : i < ts.length
    · have hmem : ts.getD i default ∈ ts := by rw [List.getD_eq_getElem?_getD, List.getElem?_eq_getElem h]; exact List.getElem_mem h
      have c1 := SSum (ts.getD i default) (ht _ hmem)
      have hsl := sumB_len (ts.getD i default)
      have hkey := keyH hsl
      have hkk := hks hC.len
      by_cases hin : ∃ p ∈ E, p.1 = sumB (ts.getD i default)
      · obtain ⟨⟨u, k⟩, hp, hu⟩ := hin
        have hu' : u = sumB (ts.getD i default) := hu
        subst hu'
        obtain ⟨hk, hks'⟩ := hC.at_ _ hp
        have hki : k < i := hk
        have hget := hget_yes (y0 := .k (.int .i64 0)) hC.one hp
        by_cases heq : ts.getD k default = ts.getD i default
        · have hne := neS_f (ts.getD i default)
          have hne2 : arithS .neq ⟨(ts.getD k default).toArray⟩ ⟨(ts.getD i default).toArray⟩ = some (.bool false) := by rw [heq]; exact hne
          have hok : i + 1 ≤ ts.length ∧ ClashAt ts (i + 1) E := ⟨h, hC.one, fun p hp => ⟨by have := (hC.at_ p hp).1; omega, (hC.at_ p hp).2⟩, fun j hj => by
            by_cases e : j = i
            · subst e; exact ⟨_, hp, rfl, heq⟩
            · exact hC.all j (by omega)⟩
          clear hC hr hne heq hks'
          generalize sumB (ts.getD i default) = sm at *
          exact wk trueW trueW trueW
        · have hne2 := neS_t heq
          have hmk : ts.getD k default ∈ ts := by rw [List.getD_eq_getElem?_getD, List.getElem?_eq_getElem (show k < ts.length by omega)]; exact List.getElem_mem _
          have hrt : r = true := hr.2 ⟨_, hmk, _, hmem, hks'.symm, heq⟩
          subst hrt
          clear hC hr heq hks'
          generalize sumB (ts.getD i default) = sm at *
          exact wk trueW trueW trueW
      · have hnone : ∀ p ∈ E, p.1 ≠ sumB (ts.getD i default) := fun p hp e => hin ⟨p, hp, e⟩
        have hget := hget_no (y0 := .k (.int .i64 0)) hnone
        have hn' := hno hnone
        have hsn := hE_snoc E (sumB (ts.getD i default)) i
        have hok : i + 1 ≤ ts.length ∧ ClashAt ts (i + 1) (E ++ [(sumB (ts.getD i default), i)]) := ⟨h, fun p hp q hq e => by
          rcases List.mem_append.1 hp with hp | hp <;> rcases List.mem_append.1 hq with hq | hq
          · exact hC.one p hp q hq e
          · rw [List.mem_singleton] at hq; subst hq; exact absurd e (hnone p hp)
          · rw [List.mem_singleton] at hp; subst hp; exact absurd e.symm (hnone q hq)
          · rw [List.mem_singleton] at hp hq; rw [hp, hq], fun p hp => by
          rcases List.mem_append.1 hp with hp | hp
          · exact ⟨by have := (hC.at_ p hp).1; omega, (hC.at_ p hp).2⟩
          · rw [List.mem_singleton] at hp; subst hp; exact ⟨by omega, rfl⟩, fun j hj => by
          by_cases e : j = i
          · subst e; exact ⟨_, List.mem_append_right _ (List.mem_singleton.2 rfl), rfl, rfl⟩
          · obtain ⟨p, h1, h2⟩ := hC.all j (by omega)
            exact ⟨p, List.mem_append_left _ h1, h2⟩⟩
        clear hC hr hnone hin
        generalize sumB (ts.getD i default) = sm at *
        exact wk trueW trueW trueW
    · obtain rfl : i = ts.length := by omega
      have hrf : r = false := by
        cases r
        · rfl
        · exact absurd (hr.1 rfl) hC.no
      subst hrf
      clear hC hr
      exact wk trueW trueW trueW
  exact ⟨fun h => main true ⟨fun _ => h, fun _ => rfl⟩, fun h => main false ⟨fun e => (by cases e), fun e => absurd e h⟩⟩
end Sr
end Lf
namespace Lf
namespace Rw
end Rw
end Lf
open Go.RowKit Rg Wm Ar
set_option linter.unusedVariables false
set_option maxRecDepth 100000
namespace Lf
open Tr Ro Pk
theorem neS_t' {a b : List UInt8} (h : a ≠ b) : arithS .neq ⟨a.toArray⟩ ⟨b.toArray⟩ = some (.bool true) := by
  simp only [arithS, ByteArray.toList_mk]
  simp [h]
theorem neS_f' (a : List UInt8) : arithS .neq ⟨a.toArray⟩ ⟨a.toArray⟩ = some (.bool false) := by
  simp only [arithS, ByteArray.toList_mk]
  simp
namespace Rw
end Rw
end Lf
end Go.Proofs.Ytkbimhccaacobaa
