/- A part of the proof: texts joined. -/
import Derived.Test.YtkbimhccaacobaaQ21e0675e
namespace Go.Proofs.Ytkbimhccaacobaa
open Go.RowKit Rg Wm Ar
set_option linter.unusedVariables false
set_option maxRecDepth 100000
namespace Lf
open Tr Ro Pk
theorem drop_cons {α : Type} [Inhabited α] {l : List α} {i : Nat} (h : i < l.length) : l.drop i = l.getD i default :: l.drop (i + 1) := by
  rw [List.drop_eq_getElem_cons h, List.getD_eq_getElem?_getD, List.getElem?_eq_getElem h]
  rfl
namespace Rw
end Rw
end Lf
namespace Lf
namespace Rw
end Rw
end Lf
open Go.RowKit Rg
namespace Lf
theorem rotN {n k : Nat} (hn : n < 2 ^ 64) (hk : k ≤ 64) : (n * 2 ^ k % 2 ^ 64 ||| n / 2 ^ (64 - k)) = (n % 2 ^ (64 - k)) * 2 ^ k + n / 2 ^ (64 - k) := by
  have e0 : (2 : Nat) ^ 64 = 2 ^ (64 - k) * 2 ^ k := by rw [← Nat.pow_add]; congr 1; omega
  have e : n * 2 ^ k % 2 ^ 64 = (n % 2 ^ (64 - k)) * 2 ^ k := by rw [e0, Nat.mul_mod_mul_right]
  have hq : n / 2 ^ (64 - k) < 2 ^ k := Nat.div_lt_of_lt_mul (by rw [← e0]; exact hn)
  rw [e]
  have := Nat.shiftLeft_add_eq_or_of_lt hq (n % 2 ^ (64 - k))
  rw [Nat.shiftLeft_eq] at this
  exact this.symm
theorem turn_arith {A B n : Nat} (hA : 0 < A) (hn : n < 2 * (A * B)) : (n % A) * (2 * B) + n / A = ((n % (2 * A)) * B + n / (2 * A)) * 2 % (2 * (A * B)) + ((n % (2 * A)) * B + n / (2 * A)) / (A * B) := by
  have e1 : n / (2 * A) = n / A / 2 := by rw [Nat.div_div_eq_div_mul, Nat.mul_comm]
  have e2 : n % (2 * A) = n % A + A * (n / A % 2) := by rw [Nat.mul_comm, Nat.mod_mul]
  rw [e1, e2]
  have hr := Nat.mod_lt n hA
  have hm : n / A < 2 * B := Nat.div_lt_of_lt_mul (by rw [show A * (2 * B) = 2 * (A * B) from by rw [Nat.mul_left_comm]]; exact hn)
  have hu : (n % A) * B + B ≤ A * B := by
    have := Nat.mul_le_mul_right B (show n % A + 1 ≤ A from hr)
    rwa [Nat.add_mul, Nat.one_mul] at this
  have e3 : (n % A + A * (n / A % 2)) * B = (n % A) * B + (A * B) * (n / A % 2) := by
    rw [Nat.add_mul, Nat.mul_assoc, Nat.mul_comm (n / A % 2) B, ← Nat.mul_assoc]
  have e4 : (n % A) * (2 * B) = 2 * ((n % A) * B) := by rw [Nat.mul_left_comm]
  rw [e3, e4]
  generalize (n % A) * B = u at *
  generalize n / A = m at *
  generalize A * B = C at *
  have h2 := Nat.mod_two_eq_zero_or_one m
  have hC : u + m / 2 < C := by omega
  rcases h2 with h | h
  · rw [h, Nat.mul_zero, Nat.add_zero, Nat.div_eq_of_lt hC, Nat.mod_eq_of_lt (by omega)]
    omega
  · rw [h, Nat.mul_one]
    have e5 : (u + C + m / 2) * 2 % (2 * C) = (u + m / 2) * 2 := by
      rw [show (u + C + m / 2) * 2 = (u + m / 2) * 2 + 2 * C from by omega, Nat.add_mod_right, Nat.mod_eq_of_lt (by omega)]
    have e6 : (u + C + m / 2) / C = 1 := by
      rw [show u + C + m / 2 = (u + m / 2) + C from by omega, Nat.add_div_right _ (by omega), Nat.div_eq_of_lt hC]
    rw [e5, e6]
    omega
theorem rotl_zero (x : UInt64) : (rotl x 0).toNat = x.toNat := by
  have h := x.toNat_lt
  rw [rotl_toNat, rotN h (by omega), Nat.sub_zero, Nat.pow_zero, Nat.mul_one, Nat.mod_eq_of_lt h, Nat.div_eq_of_lt h, Nat.add_zero]
theorem rotl_succ (x : UInt64) {k : Nat} (hk : k + 1 < 64) : (rotl x (k + 1)).toNat = (rotl x k).toNat * 2 % 2 ^ 64 + (rotl x k).toNat / 2 ^ 63 := by
  have h := x.toNat_lt
  rw [rotl_toNat, rotl_toNat, rotN h (by omega), rotN h (by omega)]
  have e1 : (2 : Nat) ^ (64 - k) = 2 * 2 ^ (63 - k) := by rw [show 64 - k = (63 - k) + 1 from by omega, Nat.pow_succ, Nat.mul_comm]
  have e2 : 64 - (k + 1) = 63 - k := by omega
  have e3 : (2 : Nat) ^ (k + 1) = 2 * 2 ^ k := by rw [Nat.pow_succ, Nat.mul_comm]
  have e4 : (2 : Nat) ^ 63 = 2 ^ (63 - k) * 2 ^ k := by rw [← Nat.pow_add]; congr 1; omega
  have e5 : (2 : Nat) ^ 64 = 2 * (2 ^ (63 - k) * 2 ^ k) := by rw [← e4]
  rw [e2, e1, e3, e4]
  conv => rhs; arg 1; rw [e5]
  exact turn_arith (Nat.two_pow_pos _) (by rw [← e5]; exact h)
theorem or_xor {x y i : Nat} (hx : x < 2 ^ i) : x ||| y * 2 ^ i = x ^^^ y * 2 ^ i := by
  apply Nat.eq_of_testBit_eq
  intro j
  rw [Nat.testBit_or, Nat.testBit_xor, Nat.testBit_mul_two_pow]
  by_cases h : i ≤ j
  · rw [Nat.testBit_lt_two_pow (Nat.lt_of_lt_of_le hx (Nat.pow_le_pow_right (by omega) h))]
    simp
  · simp [h]
def byteAt (b : UInt8) (i : Nat) : UInt64 := UInt64.ofNat (b.toNat * 2 ^ (8 * i) % 2 ^ 64)
def xorStep (l : List UInt8) (x : UInt64) (i : Nat) : UInt64 := x ^^^ byteAt (l.getD i default) i
theorem read_xor (l : List UInt8) : ∀ i, i ≤ 8 → iter (readStep l) 0 i = iter (xorStep l) 0 i ∧ (iter (readStep l) 0 i).toNat < 2 ^ (8 * i)
  | 0, _ => ⟨rfl, (by decide : (0 : UInt64).toNat < 2 ^ (8 * 0))⟩
  | i + 1, h => by
    obtain ⟨h1, h2⟩ := read_xor l i (by omega)
    have hb := (l.getD i default).toNat_lt
    have hlt : (l.getD i default).toNat * 2 ^ (8 * i) < 2 ^ (8 * (i + 1)) := by
      rw [show 8 * (i + 1) = 8 + 8 * i from by omega, Nat.pow_add]
      exact Nat.mul_lt_mul_of_pos_right (by simpa using hb) (Nat.two_pow_pos _)
    have hle : (2 : Nat) ^ (8 * (i + 1)) ≤ 2 ^ 64 := Nat.pow_le_pow_right (by omega) (by omega)
    have e : (byteAt (l.getD i default) i).toNat = (l.getD i default).toNat * 2 ^ (8 * i) := by
      unfold byteAt
      rw [Nat.mod_eq_of_lt (by omega)]
      exact UInt64.toNat_ofNat_of_lt (by show _ < 18446744073709551616; omega)
    have e0 : iter (readStep l) 0 (i + 1) = iter (readStep l) 0 i ||| byteAt (l.getD i default) i := rfl
    constructor
    · rw [e0]
      show _ = iter (xorStep l) 0 i ^^^ byteAt (l.getD i default) i
      rw [← h1]
      apply UInt64.toNat_inj.1
      rw [UInt64.toNat_or, UInt64.toNat_xor, e]
      exact or_xor h2
    · rw [e0, UInt64.toNat_or, e]
      exact Nat.or_lt_two_pow (Nat.lt_of_lt_of_le h2 (Nat.pow_le_pow_right (by omega) (by omega))) hlt
theorem readQ_xor (l : List UInt8) : readQ l = iter (xorStep l) 0 8 := by rw [readQ_eq]; exact (read_xor l 8 (by omega)).1
theorem iter_add {σ : Type} (f : σ → Nat → σ) (s : σ) (m : Nat) : ∀ n, iter f s (m + n) = iter (fun s i => f s (m + i)) (iter f s m) n
  | 0 => rfl
  | n + 1 => by
    show f (iter f s (m + n)) (m + n) = f (iter (fun s i => f s (m + i)) (iter f s m) n) (m + n)
    rw [iter_add f s m n]
theorem iter_congr {σ : Type} {f g : σ → Nat → σ} {s : σ} : ∀ {n : Nat}, (∀ s i, i < n → f s i = g s i) → iter f s n = iter g s n
  | 0, _ => rfl
  | n + 1, h => by
    show f (iter f s n) n = g (iter g s n) n
    rw [iter_congr (n := n) fun s i hi => h s i (by omega), h _ n (by omega)]
def absB (p : List UInt8) (at_ : Nat) (S : List UInt64) (k : Nat) : List UInt64 := S.set (k / 8) (S.getD (k / 8) default ^^^ UInt64.ofNat ((p.getD (at_ + k) default).toNat * 2 ^ (k % 8 * 8) % 2 ^ 64))
theorem absB_len (p : List UInt8) (a : Nat) (S : List UInt64) (k : Nat) : (absB p a S k).length = S.length := by simp [absB]
theorem set_set' {S : List UInt64} {j : Nat} {x y : UInt64} : (S.set j x).set j y = S.set j y := List.set_set ..
theorem abs_part (p : List UInt8) (a : Nat) {S : List UInt64} {j : Nat} (hS : S.length = 8) (hj : j < 4) : ∀ i, i ≤ 8 → iter (fun s i => absB p a s (8 * j + i)) S i = S.set j (S.getD j default ^^^ iter (xorStep ((((p.drop a).take 32).drop (8 * j)).take (32 - 8 * j))) 0 i)
  | 0, _ => by
    show S = S.set j (S.getD j default ^^^ 0)
    rw [UInt64.xor_zero, set_get]
  | i + 1, h => by
    show absB p a (iter (fun s i => absB p a s (8 * j + i)) S i) (8 * j + i) = _
    rw [abs_part p a hS hj i (by omega)]
    unfold absB
    have e1 : (8 * j + i) / 8 = j := by omega
    have e2 : (8 * j + i) % 8 * 8 = 8 * i := by omega
    rw [e1, e2, getD_set (by omega), set_set']
    congr 1
    show _ = S.getD j default ^^^ (iter (xorStep ((((p.drop a).take 32).drop (8 * j)).take (32 - 8 * j))) 0 i ^^^ byteAt (((((p.drop a).take 32).drop (8 * j)).take (32 - 8 * j)).getD i default) i)
    rw [← UInt64.xor_assoc]
    congr 1
    unfold byteAt
    have e3 : ((((p.drop a).take 32).drop (8 * j)).take (32 - 8 * j)).getD i default = p.getD (a + (8 * j + i)) default := by
      simp only [List.getD_eq_getElem?_getD, List.getElem?_take, List.getElem?_drop]
      rw [if_pos (by omega), if_pos (by omega)]
    rw [e3]
theorem abs_all (p : List UInt8) (a : Nat) {S : List UInt64} (hS : S.length = 8) : iter (absB p a) S 32 = iter (xorIn ((p.drop a).take 32)) S 4 := by
  have step : ∀ (S : List UInt64) j, S.length = 8 → j < 4 → iter (fun s i => absB p a s (8 * j + i)) S 8 = xorIn ((p.drop a).take 32) S j := fun S j hS hj => by
    rw [abs_part p a hS hj 8 (by omega), ← readQ_xor]; rfl
  rw [show 32 = 8 + 24 from rfl, iter_add, show 24 = 8 + 16 from rfl, iter_add, show 16 = 8 + 8 from rfl, iter_add]
  have l0 : iter (absB p a) S 8 = xorIn ((p.drop a).take 32) S 0 := by
    rw [← step S 0 hS (by omega)]
    exact iter_congr fun s i _ => by rw [Nat.mul_zero, Nat.zero_add]
  have l1 : iter (fun s i => absB p a s (8 + i)) (iter (absB p a) S 8) 8 = xorIn ((p.drop a).take 32) (xorIn ((p.drop a).take 32) S 0) 1 := by
    rw [l0, ← step _ 1 (by rw [xorIn_len]; exact hS) (by omega)]
  have l2 : iter (fun s i => absB p a s (8 + (8 + i))) (iter (fun s i => absB p a s (8 + i)) (iter (absB p a) S 8) 8) 8 = xorIn ((p.drop a).take 32) (xorIn ((p.drop a).take 32) (xorIn ((p.drop a).take 32) S 0) 1) 2 := by
    rw [l1, ← step _ 2 (by rw [xorIn_len, xorIn_len]; exact hS) (by omega)]
    exact iter_congr fun s i _ => by rw [show 8 + (8 + i) = 8 * 2 + i from by omega]
  rw [l2]
  have l3 := step (xorIn ((p.drop a).take 32) (xorIn ((p.drop a).take 32) (xorIn ((p.drop a).take 32) S 0) 1) 2) 3 (by rw [xorIn_len, xorIn_len, xorIn_len]; exact hS) (by omega)
  have l4 : iter (fun s i => absB p a s (8 + (8 + (8 + i)))) (xorIn ((p.drop a).take 32) (xorIn ((p.drop a).take 32) (xorIn ((p.drop a).take 32) S 0) 1) 2) 8 = xorIn ((p.drop a).take 32) (xorIn ((p.drop a).take 32) (xorIn ((p.drop a).take 32) (xorIn ((p.drop a).take 32) S 0) 1) 2) 3 := by
    rw [← l3]
    exact iter_congr fun s i _ => by rw [show 8 + (8 + (8 + i)) = 8 * 3 + i from by omega]
  exact l4
theorem takeH_eq (h : Hs) (x : UInt8) : takeH h x = if h.n + 1 < 32 then ⟨h.st, h.pt.set h.n x, h.n + 1⟩ else ⟨mixQ (iter (xorIn (h.pt.set h.n x)) h.st 4), h.pt.set h.n x, 0⟩ := by unfold takeH; rfl
theorem writeH_nil (h : Hs) : writeH h [] = h := by unfold writeH; rfl
theorem writeH_snoc (h : Hs) (l : List UInt8) (x : UInt8) : writeH h (l ++ [x]) = takeH (writeH h l) x := by unfold writeH; rw [List.foldl_append]; rfl
theorem write_part {S : List UInt64} {P B : List UInt8} (hP : P.length = 32) (hB : B.length = 32) : ∀ m, m ≤ 31 → writeH ⟨S, P, 0⟩ (B.take m) = ⟨S, B.take m ++ P.drop m, m⟩
  | 0, _ => writeH_nil _
  | m + 1, h => by
    have hm : m < B.length := by omega
    rw [List.take_succ_eq_append_getElem hm, writeH_snoc, write_part hP hB m (by omega), takeH_eq, if_pos (by show m + 1 < 32; omega)]
    congr 1
    show (B.take m ++ P.drop m).set m B[m] = B.take m ++ [B[m]] ++ P.drop (m + 1)
    have hl : (B.take m).length = m := by rw [List.length_take]; omega
    have hp : m < P.length := by omega
    rw [List.set_append_right _ _ (by omega), hl, Nat.sub_self, List.drop_eq_getElem_cons hp, List.set_cons_zero, List.append_assoc]
    rfl
theorem write_block {S : List UInt64} {P B : List UInt8} (hP : P.length = 32) (hB : B.length = 32) : writeH ⟨S, P, 0⟩ B = ⟨mixQ (iter (xorIn B) S 4), B, 0⟩ := by
  have hm : 31 < B.length := by omega
  have e : B = B.take 31 ++ [B[31]] := by
    have := List.take_succ_eq_append_getElem hm
    rw [← this, List.take_of_length_le (by omega)]
  have hl : (B.take 31).length = 31 := by rw [List.length_take]; omega
  have e2 : (B.take 31 ++ P.drop 31).set 31 B[31] = B := by
    have hp : 31 < P.length := by omega
    rw [List.set_append_right _ _ (by omega), hl, Nat.sub_self, List.drop_eq_getElem_cons hp, List.set_cons_zero, List.drop_of_length_le (by omega)]
    exact e.symm
  have h1 : writeH ⟨S, P, 0⟩ B = takeH (writeH ⟨S, P, 0⟩ (B.take 31)) B[31] := by
    rw [← writeH_snoc, ← e]
  rw [h1, write_part hP hB 31 (by omega), takeH_eq, if_neg (by show ¬ 31 + 1 < 32; omega)]
  simp only [e2]
def blkQ (p : List UInt8) (S : List UInt64) (i : Nat) : List UInt64 := mixQ (iter (absB p (32 * i)) S 32)
theorem blkQ_len (p : List UInt8) (S : List UInt64) (i : Nat) : (blkQ p S i).length = S.length := by unfold blkQ; rw [mixQ_len, iter_len (absB_len p _)]
theorem writeH_app' (h : Hs) (a b : List UInt8) : writeH h (a ++ b) = writeH (writeH h a) b := by unfold writeH; rw [List.foldl_append]
theorem write_blocks {p : List UInt8} {m : Nat} (hp : p.length = 32 * m) : ∀ i, i ≤ m → ∃ P : List UInt8, P.length = 32 ∧ writeH hs0 (p.take (32 * i)) = ⟨iter (blkQ p) (List.replicate 8 0) i, P, 0⟩
  | 0, _ => ⟨List.replicate 32 0, rfl, writeH_nil _⟩
  | i + 1, h => by
    obtain ⟨P, h1, h2⟩ := write_blocks hp i (by omega)
    have hB : ((p.drop (32 * i)).take 32).length = 32 := by rw [List.length_take, List.length_drop]; omega
    have e : p.take (32 * (i + 1)) = p.take (32 * i) ++ (p.drop (32 * i)).take 32 := by rw [show 32 * (i + 1) = 32 * i + 32 from by omega, List.take_add]
    refine ⟨(p.drop (32 * i)).take 32, hB, ?_⟩
    rw [e, writeH_app', h2, write_block h1 hB, ← abs_all p (32 * i) ((iter_len (blkQ_len p) _ i).trans rfl)]
    rfl
theorem writeH_n : ∀ (l : List UInt8), (writeH hs0 l).n = l.length % 32 := by
  intro l
  have : ∀ k, k ≤ l.length → (writeH hs0 (l.take k)).n = k % 32 := by
    intro k
    induction k with
    | zero => intro _; rw [List.take_zero, writeH_nil]; rfl
    | succ k ih =>
      intro h
      have hk : k < l.length := h
      rw [List.take_succ_eq_append_getElem hk, writeH_snoc, takeH_eq]
      have h1 := ih (by omega)
      split
      · show (writeH hs0 (l.take k)).n + 1 = _
        omega
      · show 0 = _
        omega
  have h := this l.length (Nat.le_refl _)
  rwa [List.take_length] at h
theorem padN_eq (h : Hs) (i : Nat) : padN h i = writeH h (List.replicate i 0) := by
  unfold padN
  induction i with
  | zero => exact (writeH_nil h).symm
  | succ i ih =>
    rw [List.replicate_succ', writeH_snoc, ← ih]
    rfl
theorem sumB_pad (b : List UInt8) : sumB b = outQ (writeH hs0 (padB b)).st := by
  have e1 : sumB b = sumH (writeH hs0 b) := by unfold sumB; rfl
  have e2 : ∀ h, sumH h = outQ (takeH (padH h) 128).st := fun h => by unfold sumH; rfl
  have e3 : ∀ h, padH h = padN (takeH h 1) (31 - (takeH h 1).n) := fun h => by unfold padH; rfl
  have hn : (takeH (writeH hs0 b) 1).n = (b.length + 1) % 32 := by
    rw [← writeH_snoc, writeH_n, List.length_append]; rfl
  have e5 : padB b = b ++ [1] ++ List.replicate (31 - (b.length + 1) % 32) 0 ++ [128] := by unfold padB padZ; rfl
  rw [e5, e1, e2, e3, hn, padN_eq, ← writeH_snoc hs0 b 1, ← writeH_app' hs0 (b ++ [1]), ← writeH_snoc hs0 _ 128]
def stR (p : List UInt8) (i : Nat) : List UInt64 := iter (blkQ p) (List.replicate 8 0) i
def outStep (S : List UInt64) (L : List UInt8) (k : Nat) : List UInt8 := L.set k (UInt8.ofNat ((S.getD (k / 8) default).toNat / 2 ^ (k % 8 * 8)))
theorem outStep_len (S : List UInt64) (L : List UInt8) (k : Nat) : (outStep S L k).length = L.length := by simp [outStep]
theorem wrQ_eq' (st : List UInt64) (L : List UInt8) (j : Nat) : wrQ st L j = iter (wr8 (st.getD j default) (8 * j)) L 8 := by unfold wrQ; rfl
theorem outQ_step (S : List UInt64) : outQ S = iter (outStep S) (List.replicate 32 0) 32 := by
  have e0 : outQ S = iter (wrQ S) (List.replicate 32 0) 4 := by unfold outQ; rfl
  have step : ∀ L j, wrQ S L j = iter (fun L i => outStep S L (8 * j + i)) L 8 := fun L j => by
    rw [wrQ_eq']
    exact iter_congr fun L i hi => by
      unfold wr8 outStep
      rw [show (8 * j + i) / 8 = j from by omega, show (8 * j + i) % 8 * 8 = 8 * i from by omega]
  have f0 : ∀ L : List UInt8, iter (outStep S) L 8 = wrQ S L 0 := fun L => by rw [step]; exact iter_congr fun s i _ => by rw [Nat.mul_zero, Nat.zero_add]
  have f1 : ∀ L : List UInt8, iter (fun L i => outStep S L (8 + i)) L 8 = wrQ S L 1 := fun L => by rw [step]
  have f2 : ∀ L : List UInt8, iter (fun L i => outStep S L (8 + (8 + i))) L 8 = wrQ S L 2 := fun L => by rw [step]; exact iter_congr fun s i _ => by rw [show 8 + (8 + i) = 8 * 2 + i from by omega]
  have f3 : ∀ L : List UInt8, iter (fun L i => outStep S L (8 + (8 + (8 + i)))) L 8 = wrQ S L 3 := fun L => by rw [step]; exact iter_congr fun s i _ => by rw [show 8 + (8 + (8 + i)) = 8 * 3 + i from by omega]
  rw [e0, show 32 = 8 + 24 from rfl, iter_add, show 24 = 8 + 16 from rfl, iter_add, show 16 = 8 + 8 from rfl, iter_add, f0, f1, f2, f3]
  rfl
theorem sumB_ref (b : List UInt8) {m : Nat} (hm : (padB b).length = 32 * m) : sumB b = iter (outStep (stR (padB b) m)) (List.replicate 32 0) 32 := by
  rw [← outQ_step, sumB_pad]
  obtain ⟨P, _, h⟩ := write_blocks hm m (Nat.le_refl _)
  rw [List.take_of_length_le (by omega)] at h
  rw [h]
  rfl
end Lf
end Go.Proofs.Ytkbimhccaacobaa
