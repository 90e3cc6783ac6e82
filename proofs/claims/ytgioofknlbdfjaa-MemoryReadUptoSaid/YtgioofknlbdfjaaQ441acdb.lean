/- MemoryRead: the law's function answers true at every input of bulk at most 1048576, and touches no old memory; from its walk to the given statement. Conditions: the statement's own bound, nothing else. -/
import Derived.Test.YtgioofknlbdfjaaQ3f4404f
/- Contracts of package word, lifted. -/
namespace Go.Proofs.Ytgioofknlbdfjaa
open Go.RowKit Rg Wm Ar
namespace Lf
namespace Wo
theorem IntW (n : Nat) (h : n < m64) : LF Try.prog 14 [uK n] (fun _ => wV n) none := .of_calls (by kernel_rfl) rfl (ex1 (exact_k _)) (exact_word _) fun w => Wd.IntW n h w
theorem Cmp (x y : Nat) : LF Try.prog 12 [wV x, wV y] (fun _ => .k (.int .i64 (Wd.cmp x y))) none := .of_calls (by kernel_rfl) rfl (ex2 (exact_word x) (exact_word y)) (exact_k _) fun w => Wd.Cmp x y w
theorem Sub (x y : Nat) : LF Try.prog 13 [wV x, wV y] (fun _ => wV (dif x y)) none := .of_calls (by kernel_rfl) rfl (ex2 (exact_word x) (exact_word y)) (exact_word _) fun w => Wd.Sub x y w
end Wo
theorem byte_at (x : Nat) {i : Nat} (h : i < 32) : (limbs x).getD ((31 - i) / 8) default / 2 ^ ((31 - i) % 8 * 8) % 256 = x / 256 ^ (31 - i) % 256 := by
  rw [limbs_get x (by omega), limb_byte _ _ _ (Nat.mod_lt _ (by decide))]
  congr 3
  omega
theorem set_more {i n V b : Nat} (_h : i < n) (hn : i < 32) (hV : V < 256 ^ i) (hb : b < 256) : (limbs V).set (i / 8) ((limbs V).getD (i / 8) default ||| b * 2 ^ (i % 8 * 8) % 2 ^ 64) = limbs (V + b * 256 ^ i) := by
  rw [limbs_get V (by omega)]
  have h : ∀ k, limb (V + b * 256 ^ i) k = _ := limb_set hV hb
  have hq : i / 8 = 0 ∨ i / 8 = 1 ∨ i / 8 = 2 ∨ i / 8 = 3 := by omega
  unfold limbs
  simp only [h]
  rcases hq with e | e | e | e <;> rw [e] <;> rfl
namespace Wo
set_option maxHeartbeats 1000000 in
theorem Bytes (x : Nat) : LF Try.prog 24 [wV x] (fun _ => .a ((wordB x).map bK)) none := by
  have hl := limbs_len x
  refine LFx.mk' tt Try.func24 rfl rfl rfl (by kernel_rfl) rfl rfl fun F => ?_
  refine wk ?_ trueW trueW
  refine LC.loop2 (fun i L => [(1, .p 1 0), (2, .p 2 0), (3, .p 3 0), (6, .k (.int .i64 ((i : Nat) : Int)))]) (fun i L => [(1, .b ((limbs x).map uK)), (2, .b ((List.replicate 32 0).map bK)), (3, .b (L.map bK))]) (fun i L => i ≤ 32 ∧ L = bytesR x i) ((32 - ·)) (0) ((List.replicate 32 0)) ⟨by omega, by unfold bytesR; rfl⟩ ⟨rfl, rfl, rfl, rfl, trivial⟩ ⟨rfl, rfl, rfl, trivial⟩ rfl (by first | exact rfl | (simp only [V.cells, refsE, refsM, V.refs, V.refs.go, V.pure, V.pure.go, pure_mapq, pure_mapb, pure_mapu, refs_mapq, refs_mapb, refs_mapu, refs_append, Bool.and_true, Bool.true_and, Bool.and_self] <;> exact rfl) | (simp only [V.cells, refsE, refsM, V.refs, V.refs.go, V.pure, V.pure.go, pure_mapq, pure_mapb, pure_mapu, refs_mapq, refs_mapb, refs_mapu, refs_append, Bool.and_true, Bool.true_and, Bool.and_self, hrf] <;> exact rfl) | (simp only [V.cells, refsE, refsM, V.refs, V.refs.go, V.pure, V.pure.go, pure_mapq, pure_mapb, pure_mapu, refs_mapq, refs_mapb, refs_mapu, refs_append, Bool.and_true, Bool.true_and, Bool.and_self, hrf, hrg] <;> exact rfl) | exact lz) (by first | exact rfl | (simp only [V.cells, refsE, refsM, V.refs, V.refs.go, V.pure, V.pure.go, pure_mapq, pure_mapb, pure_mapu, refs_mapq, refs_mapb, refs_mapu, refs_append, Bool.and_true, Bool.true_and, Bool.and_self] <;> exact rfl) | (simp only [V.cells, refsE, refsM, V.refs, V.refs.go, V.pure, V.pure.go, pure_mapq, pure_mapb, pure_mapu, refs_mapq, refs_mapb, refs_mapu, refs_append, Bool.and_true, Bool.true_and, Bool.and_self, hrf] <;> exact rfl) | (simp only [V.cells, refsE, refsM, V.refs, V.refs.go, V.pure, V.pure.go, pure_mapq, pure_mapb, pure_mapu, refs_mapq, refs_mapb, refs_mapu, refs_append, Bool.and_true, Bool.true_and, Bool.and_self, hrf, hrg] <;> exact rfl) | exact lz) ?_
  rintro i L ⟨hi, hL⟩
  have hb := bytesR_len x i
  rw [← hL] at hb
  rcases Nat.lt_or_ge i 32 with h | h
  · have hok : i + 1 ≤ 32 ∧ L.set i (UInt8.ofNat ((limbs x).getD ((31 - i) / 8) default / 2 ^ ((31 - i) % 8 * 8))) = bytesR x (i + 1) := ⟨h, by rw [hL]; exact bytesR_set x i h (byte_at x h)⟩
    clear hL
    exact wk trueW trueW trueW
  · obtain rfl : i = 32 := by omega
    have hv1 : V.a (L.map bK) = V.a ((wordB x).map bK) := by rw [hL, bytesR_full]
    clear hL
    exact wk trueW trueW trueW
set_option maxHeartbeats 1000000 in
theorem Read (l : List UInt8) (hn : l.length ≤ 32) : LF Try.prog 23 [.s none (l.map bK)] (fun _ => wV (Ps.beN l)) none := by
  have hmin : (if (32 : Int) < ((l.length : Nat) : Int) then (32 : Int) else ((l.length : Nat) : Int)) = ((l.length : Nat) : Int) := if_neg (by omega)
  refine LFx.mk' tt Try.func23 rfl rfl rfl (by kernel_rfl) rfl rfl fun F => ?_
  refine wk ?_ trueW trueW
  refine LC.loop2 (fun i L => [(0, .s none (l.map bK)), (2, .p 2 0), (3, .p 3 0), (7, .k (.int .i64 ((l.length : Nat) : Int))), (8, .k (.int .i64 ((i : Nat) : Int)))]) (fun i L => [(2, .b ((List.replicate 4 0).map uK)), (3, .b (L.map uK))]) (fun i L => i ≤ l.length ∧ L = limbs (tailN l i)) ((l.length - ·)) (0) ((List.replicate 4 0)) ⟨by omega, by rw [tailN_zero]; unfold limbs; decide⟩ ⟨rfl, rfl, rfl, rfl, rfl, trivial⟩ ⟨rfl, rfl, trivial⟩ rfl (by first | exact rfl | (simp only [V.cells, refsE, refsM, V.refs, V.refs.go, V.pure, V.pure.go, pure_mapq, pure_mapb, pure_mapu, refs_mapq, refs_mapb, refs_mapu, refs_append, Bool.and_true, Bool.true_and, Bool.and_self] <;> exact rfl) | (simp only [V.cells, refsE, refsM, V.refs, V.refs.go, V.pure, V.pure.go, pure_mapq, pure_mapb, pure_mapu, refs_mapq, refs_mapb, refs_mapu, refs_append, Bool.and_true, Bool.true_and, Bool.and_self, hrf] <;> exact rfl) | (simp only [V.cells, refsE, refsM, V.refs, V.refs.go, V.pure, V.pure.go, pure_mapq, pure_mapb, pure_mapu, refs_mapq, refs_mapb, refs_mapu, refs_append, Bool.and_true, Bool.true_and, Bool.and_self, hrf, hrg] <;> exact rfl) | exact lz) (by first | exact rfl | (simp only [V.cells, refsE, refsM, V.refs, V.refs.go, V.pure, V.pure.go, pure_mapq, pure_mapb, pure_mapu, refs_mapq, refs_mapb, refs_mapu, refs_append, Bool.and_true, Bool.true_and, Bool.and_self] <;> exact rfl) | (simp only [V.cells, refsE, refsM, V.refs, V.refs.go, V.pure, V.pure.go, pure_mapq, pure_mapb, pure_mapu, refs_mapq, refs_mapb, refs_mapu, refs_append, Bool.and_true, Bool.true_and, Bool.and_self, hrf] <;> exact rfl) | (simp only [V.cells, refsE, refsM, V.refs, V.refs.go, V.pure, V.pure.go, pure_mapq, pure_mapb, pure_mapu, refs_mapq, refs_mapb, refs_mapu, refs_append, Bool.and_true, Bool.true_and, Bool.and_self, hrf, hrg] <;> exact rfl) | exact lz) ?_
  rintro i L ⟨hi, hL⟩
  have hb : L.length = 4 := by rw [hL, limbs_len]
  rcases Nat.lt_or_ge i l.length with h | h
  · have h1 := limbs_lt (tailN l i) (i / 8)
    rw [← hL] at h1
    have hok : i + 1 ≤ l.length ∧ L.set (i / 8) (L.getD (i / 8) default ||| (l.getD (l.length - 1 - i) default).toNat * 2 ^ (i % 8 * 8) % 2 ^ 64) = limbs (tailN l (i + 1)) := ⟨h, by rw [hL, tailN_succ l h]; exact set_more h (by omega) (tailN_lt l hi) (UInt8.toNat_lt _)⟩
    have h2 := (l.getD (l.length - 1 - i) default).toNat_lt
    clear hL
    exact wk trueW trueW trueW
  · obtain rfl : i = l.length := by omega
    rw [tailN_all] at hL
    subst hL
    exact wk trueW trueW trueW
end Wo
end Lf
end Go.Proofs.Ytgioofknlbdfjaa

/- Package memory: Cost, Price, Need, View. -/
namespace Go.Proofs.Ytgioofknlbdfjaa
open Go.RowKit Rg Wm Ar
set_option maxRecDepth 100000
namespace Lf
theorem cmp_pos {x y : Nat} : Wd.cmp x y > 0 ↔ y % M256 < x % M256 := by
  unfold Wd.cmp
  split
  · exact ⟨fun h => by omega, fun h => by omega⟩
  · split
    · exact ⟨fun _ => by assumption, fun _ => by omega⟩
    · exact ⟨fun h => by omega, fun h => by omega⟩
theorem M256_big : 4096 < M256 := by unfold M256 m64; decide
theorem dif_small {x y : Nat} (h : y ≤ x) (hx : x < M256) : dif x y % M256 = x - y := by
  have := dif_mod x y
  have h1 : y < M256 := by omega
  unfold dif at this ⊢
  rw [Nat.mod_eq_of_lt h1, show x + (M256 - y) = (x - y) + M256 by omega, Nat.add_mod_right, Nat.mod_eq_of_lt (by omega)]
theorem limb0 (x : Nat) (h : x < m64) : (limbs x).getD 0 default = x := by rw [limbs_small h]; rfl
theorem limbs_zero {x : Nat} (hx : x < M256) : limbs x = List.replicate 4 0 ↔ x = 0 := by
  have h : List.replicate 4 0 = limbs 0 := by unfold limbs; decide
  rw [h, limbs_iff, Nat.mod_eq_of_lt hx]
  exact ⟨fun h => h, fun h => by rw [h]; rfl⟩
theorem small64 {x : Nat} (h : x ≤ 4096) : x < m64 := by unfold m64; omega
/-- The memory that is lent: its one field, its bytes. -/
abbrev memI (i j g : Nat) (l : List UInt8) : Mem := [(i, .b [.w j g 1 0 l.length]), (j, .w 5 1 g (l.map bK))]
namespace Mw
theorem Cost (w : Nat) (h : w ≤ 128) : LF Try.prog 10 [.k (.int .i64 (w : Int))] (fun _ => uK (My.cost w)) none := by
  have hw : w * w ≤ 128 * 128 := Nat.mul_le_mul h h
  have e : My.cost w = 3 * w + w * w / 64 := if_pos h
  rw [e]
  clear e
  refine LFx.mk' tt Try.func10 rfl rfl rfl (by kernel_rfl) rfl rfl fun F => ?_
  exact wk trueW trueW trueW
set_option maxHeartbeats 1000000 in
theorem Price (g : Nat) (l : List UInt8) (size : Nat) (hL : l.length ≤ 4096) (h : size ≤ 4096) : LM Try.prog 25 [.p 1000 0, .k (.int .i64 (size : Int))] (memI 1000 1001 g l) fun o m => o = .ret (uK (My.price l.length size)) ∧ m = memI 1000 1001 g l := by
  have c1 := Cost (size / 32) (by omega)
  have c2 := Cost (l.length / 32) (by omega)
  unfold My.price
  refine LM.enter tt Try.func25 rfl rfl rfl (by kernel_rfl) rfl rfl rfl (fun o mo h => by rw [h.2]; rfl) fun F _ => ?_
  by_cases hs : size ≤ l.length
  · rw [if_pos hs]
    exact wk trueW trueW trueW
  · rw [if_neg hs]
    have hm := My.cost_mono (a := l.length / 32) (b := size / 32) (by omega) (by omega)
    have hlt := My.cost_lt (size / 32)
    generalize My.cost (size / 32) = a at *
    generalize My.cost (l.length / 32) = b at *
    exact wk trueW trueW trueW
set_option maxHeartbeats 1000000 in
theorem Need_ok (g : Nat) (l : List UInt8) (a n m : Nat) (ha : a < M256) (hn : n < M256) (hL : l.length ≤ 4096) (h : My.need l.length a n = some m) : LM Try.prog 20 [.p 1000 0, wV a, wV n] (memI 1000 1001 g l) fun o m' => o = .ret (.t [.k (.int .i64 (m : Int)), .k (.int .i64 0)]) ∧ m' = memI 1000 1001 g l := by
  have c1 := Wo.IntW 4096 (by unfold m64; decide)
  have c2 := Wo.Cmp a 4096
  have c3 := Wo.Sub 4096 a
  have c4 := Wo.Cmp n (dif 4096 a)
  have hla := limbs_len a
  have hln := limbs_len n
  have hlm := limbs_len 4096
  have hz := limbs_zero hn
  refine LM.enter tt Try.func20 rfl rfl rfl (by kernel_rfl) rfl rfl rfl (fun o mo h => by rw [h.2]; rfl) fun F _ => ?_
  unfold My.need at h
  by_cases h0 : n = 0
  · rw [if_pos h0] at h
    cases h
    have hz2 := hz.2 h0
    clear hz
    exact wk trueW trueW trueW
  · rw [if_neg h0] at h
    have hz2 : ¬ limbs n = List.replicate 4 0 := fun k => h0 (hz.1 k)
    clear hz
    have h1 : ¬ (4096 < a ∨ 4096 - a < n) := fun k => by rw [if_pos k] at h; cases h
    rw [if_neg h1] at h
    cases h
    have hA : ¬ Wd.cmp a 4096 > 0 := fun k => by
      have := cmp_pos.1 k
      rw [Nat.mod_eq_of_lt ha, Nat.mod_eq_of_lt M256_big] at this
      omega
    have hB : ¬ Wd.cmp n (dif 4096 a) > 0 := fun k => by
      have := cmp_pos.1 k
      rw [Nat.mod_eq_of_lt hn, dif_small (by omega) M256_big] at this
      omega
    have ea := limb0 a (small64 (by omega))
    have en := limb0 n (small64 (by omega))
    have hup : max l.length (My.up (a + n)) = max l.length (((limbs a).getD 0 default + (limbs n).getD 0 default + 32 - 1) / 32 * 32) := by unfold My.up; rw [ea, en]; congr 2
    rw [hup]
    clear hup
    generalize Wd.cmp a 4096 = za at *
    generalize Wd.cmp n (dif 4096 a) = zb at *
    have hmx : (if (l.length : Int) < ((((limbs a).getD 0 default + (limbs n).getD 0 default + 32 - 1) / 32 * 32 : Nat) : Int) then ((((limbs a).getD 0 default + (limbs n).getD 0 default + 32 - 1) / 32 * 32 : Nat) : Int) else (l.length : Int)) = ((max l.length (((limbs a).getD 0 default + (limbs n).getD 0 default + 32 - 1) / 32 * 32) : Nat) : Int) := by
      split
      · rw [Nat.max_eq_right (by omega)]
      · rw [Nat.max_eq_left (by omega)]
    exact wk trueW trueW trueW
set_option maxHeartbeats 1000000 in
theorem Need_no (g : Nat) (l : List UInt8) (a n : Nat) (ha : a < M256) (hn : n < M256) (hL : l.length ≤ 4096) (h : My.need l.length a n = none) : LM Try.prog 20 [.p 1000 0, wV a, wV n] (memI 1000 1001 g l) fun o m' => o = .ret (.t [.k (.int .i64 0), .k (.int .i64 6)]) ∧ m' = memI 1000 1001 g l := by
  have c1 := Wo.IntW 4096 (by unfold m64; decide)
  have c2 := Wo.Cmp a 4096
  have c3 := Wo.Sub 4096 a
  have c4 := Wo.Cmp n (dif 4096 a)
  have hla := limbs_len a
  have hln := limbs_len n
  have hlm := limbs_len 4096
  refine LM.enter tt Try.func20 rfl rfl rfl (by kernel_rfl) rfl rfl rfl (fun o mo h => by rw [h.2]; rfl) fun F _ => ?_
  unfold My.need at h
  have h0 : ¬ n = 0 := fun k => by rw [if_pos k] at h; cases h
  rw [if_neg h0] at h
  have hz2 : ¬ limbs n = List.replicate 4 0 := fun k => h0 ((limbs_zero hn).1 k)
  have h1 : 4096 < a ∨ 4096 - a < n := Classical.byContradiction fun k => by rw [if_neg k] at h; cases h
  clear h
  by_cases hA : Wd.cmp a 4096 > 0
  · clear h1
    generalize Wd.cmp a 4096 = za at *
    exact wk trueW trueW trueW
  · have hB : Wd.cmp n (dif 4096 a) > 0 := by
      have hA2 : ¬ 4096 < a := fun k => hA (cmp_pos.2 (by rw [Nat.mod_eq_of_lt ha, Nat.mod_eq_of_lt M256_big]; exact k))
      rw [cmp_pos, Nat.mod_eq_of_lt hn, dif_small (by omega) M256_big]
      omega
    clear h1
    generalize Wd.cmp a 4096 = za at *
    generalize Wd.cmp n (dif 4096 a) = zb at *
    exact wk trueW trueW trueW
theorem View_ok (g : Nat) (l : List UInt8) (a n : Nat) (hn : 0 < n) (h : a + n ≤ l.length) (hL : l.length ≤ 4096) : LM Try.prog 22 [.p 1000 0, wV a, wV n] (memI 1000 1001 g l) fun o m' => o = .ret (.w 1001 g 1 a n) ∧ m' = memI 1000 1001 g l := by
  have hla := limbs_len a
  have hln := limbs_len n
  have hM := M256_big
  have hz2 : ¬ limbs n = List.replicate 4 0 := fun k => by have := (limbs_zero (by omega)).1 k; omega
  have ea := limb0 a (small64 (by omega))
  have en := limb0 n (small64 (by omega))
  refine LM.enter tt Try.func22 rfl rfl rfl (by kernel_rfl) rfl rfl rfl (fun o mo h => by rw [h.2]; rfl) fun F _ => ?_
  have hv1 : V.w 1001 g 1 ((limbs a).getD 0 default) ((limbs n).getD 0 default) = V.w 1001 g 1 a n := by rw [ea, en]
  exact wk trueW trueW trueW
theorem View_no (g : Nat) (l : List UInt8) (a n : Nat) (hn : n = 0) : LM Try.prog 22 [.p 1000 0, wV a, wV n] (memI 1000 1001 g l) fun o m' => o = .ret .nil ∧ m' = memI 1000 1001 g l := by
  subst hn
  have hla := limbs_len a
  have hz2 : limbs 0 = List.replicate 4 0 := by unfold limbs; decide
  refine LM.enter tt Try.func22 rfl rfl rfl (by kernel_rfl) rfl rfl rfl (fun o mo h => by rw [h.2]; rfl) fun F _ => ?_
  have hln := limbs_len 0
  exact wk trueW trueW trueW
end Mw
end Lf
end Go.Proofs.Ytgioofknlbdfjaa

/- Package memory: Grow; what is told of an operation, of an answer. -/
namespace Go.Proofs.Ytgioofknlbdfjaa
open Go.RowKit Rg Wm Ar
set_option maxRecDepth 100000
namespace Lf
def opC (o : My.MOp) : List V := .k (.int .i64 o.kind) :: ((limbs o.at_).map uK ++ ((limbs o.from_).map uK ++ ((limbs o.len).map uK ++ ((limbs o.word).map uK ++ [.s none (o.data.map bK)]))))
theorem four {α : Type} {l : List α} (h : l.length = 4) : ∃ a b c d, l = [a, b, c, d] := by
  match l, h with
  | [a, b, c, d], _ => exact ⟨a, b, c, d, rfl⟩
structure OpC (o : My.MOp) : Prop where
  len : (opC o).length = 18
  refs : ∀ m : Mem, V.refs.go m (opC o) = true
  p0 : ∀ ti : TI, ti.d.agg = false → ti.part (opC o) 0 = some (.k (.int .i64 o.kind))
  p17 : ∀ ti : TI, ti.d.agg = false → ti.part (opC o) 17 = some (.s none (o.data.map bK))
  p13 : ∀ ti : TI, ti.d.agg = false → ti.part (opC o) 13 = some (uK ((limbs o.word).getD 0 default))
  w1 : ∀ ti : TI, ti.d.agg = true → ti.size = 4 → ti.part (opC o) 1 = some (wV o.at_)
  w5 : ∀ ti : TI, ti.d.agg = true → ti.size = 4 → ti.part (opC o) 5 = some (wV o.from_)
  w9 : ∀ ti : TI, ti.d.agg = true → ti.size = 4 → ti.part (opC o) 9 = some (wV o.len)
  w13 : ∀ ti : TI, ti.d.agg = true → ti.size = 4 → ti.part (opC o) 13 = some (wV o.word)
theorem opC_ok (o : My.MOp) : OpC o := by
  obtain ⟨k, a, f, n, w, d⟩ := o
  obtain ⟨a0, a1, a2, a3, ha⟩ := four (limbs_len a)
  obtain ⟨f0, f1, f2, f3, hf⟩ := four (limbs_len f)
  obtain ⟨n0, n1, n2, n3, hn⟩ := four (limbs_len n)
  obtain ⟨w0, w1, w2, w3, hw⟩ := four (limbs_len w)
  constructor <;> simp only [opC, wV, ha, hf, hn, hw]
  · rfl
  · intro m; rfl
  all_goals (intro ti hd; simp only [TI.part, hd])
  · rfl
  · rfl
  · rfl
  all_goals (intro hs; simp only [hs]; rfl)
def ansC (a : My.Ans) : List V := .k (.int .i64 a.err) :: ((limbs a.word).map uK ++ [uK a.cost])
theorem ansC_refs (a : My.Ans) (m : Mem) : V.refs.go m (ansC a) = true := by
  obtain ⟨w0, w1, w2, w3, hw⟩ := four (limbs_len a.word)
  simp only [ansC, hw]; rfl
theorem ansC_len (a : My.Ans) : (ansC a).length = 6 := by
  obtain ⟨w0, w1, w2, w3, hw⟩ := four (limbs_len a.word)
  simp only [ansC, hw]; rfl
namespace Mw
set_option maxHeartbeats 1000000 in
theorem Grow (g : Nat) (l : List UInt8) (size g' : Nat) (l' : List UInt8) (hL : l.length ≤ 4096) (h : size ≤ 4096) (he : My.grow ⟨g, l⟩ size = ⟨g', l'⟩) : LM Try.prog 21 [.p 1000 0, .k (.int .i64 (size : Int))] (memI 1000 1001 g l) fun o m => o = .ret (uK (My.price l.length size)) ∧ m = memI 1000 1001 g' l' := by
  have c1 := Price g l size hL h
  generalize My.price l.length size = p at *
  unfold My.grow at he
  by_cases hs : size ≤ l.length
  · rw [if_pos hs] at he
    cases he
    refine LM.enter tt Try.func21 rfl rfl rfl (by kernel_rfl) rfl rfl rfl (fun o mo h => by rw [h.2]; rfl) fun F _ => ?_
    exact wk trueW trueW trueW
  · rw [if_neg hs] at he
    cases he
    have hlen : l.length + (size - l.length) = (l ++ List.replicate (size - l.length) 0).length := by simp
    refine LM.enter tt Try.func21 rfl rfl rfl (by kernel_rfl) rfl rfl rfl (fun o mo h => by rw [h.2]; rfl) fun F _ => ?_
    exact wk trueW trueW trueW
end Mw
end Lf
end Go.Proofs.Ytgioofknlbdfjaa

/- Package memory: do, kind by kind. -/
namespace Go.Proofs.Ytgioofknlbdfjaa
open Go.RowKit Rg Wm Ar
set_option maxRecDepth 100000
namespace Lf
theorem max0 (m : Nat) : (if (0 : Int) < (m : Int) then (m : Int) else 0) = (m : Int) := by split <;> omega
theorem maxN (a b : Nat) : (if (a : Int) < (b : Int) then (b : Int) else (a : Int)) = ((max a b : Nat) : Int) := by
  split
  · rw [Nat.max_eq_right (by omega)]
  · rw [Nat.max_eq_left (by omega)]
abbrev memJ (i j g n : Nat) (l : List UInt8) : Mem := [(i, .b [.w j g 1 0 n]), (j, .w 5 1 g (l.map bK))]
abbrev ans0 (e : Int) (p : Nat) : V := .a [.k (.int .i64 e), uK 0, uK 0, uK 0, uK 0, uK p]
abbrev ansW (x p : Nat) : V := .a (.k (.int .i64 0) :: ((limbs x).map uK ++ [uK p]))
theorem small256 {n : Nat} (h : n < 1099511627776) : n < M256 := by unfold M256 m64; omega
theorem small64' {n : Nat} (h : n < 1099511627776) : n < m64 := by unfold m64; omega
namespace Mw
set_option maxHeartbeats 4000000 in
theorem do_load (g : Nat) (l : List UInt8) (o : My.MOp) (m g' : Nat) (l' : List UInt8) (ho : o.ok) (hk : o.kind = 1) (hL : l.length ≤ 4096) (hm : My.need l.length o.at_ 32 = some m) (hg : My.grow ⟨g, l⟩ m = ⟨g', l'⟩) (h2 : m ≤ 4096) (h3 : l'.length = m) (h1 : o.at_ + 32 ≤ m) :
    LM Try.prog 17 [.p 1000 0, .a (opC o)] (memI 1000 1001 g l) fun out m' => out = .ret (ansW (Ps.beN ((l'.drop o.at_).take 32)) (My.price l.length m)) ∧ m' = memI 1000 1001 g' l' := by
  have c1 := Wo.IntW 32 (by unfold m64; decide)
  have c2 := Need_ok g l o.at_ 32 m ho.a (by unfold M256 m64; decide) hL hm
  have c3 := Grow g l m g' l' hL h2 hg
  have c4 := View_ok g' l' o.at_ 32 (by decide) (by omega) (by omega)
  have hvl : ((l'.drop o.at_).take 32).length = 32 := by simp; omega
  have c5 := Wo.Read ((l'.drop o.at_).take 32) (by omega)
  have hbn := limbs_len (Ps.beN ((l'.drop o.at_).take 32))
  have hmx := max0 m
  generalize Ps.beN ((l'.drop o.at_).take 32) = X at *
  generalize My.price l.length m = p at *
  obtain ⟨q1, hrf, ld1, ld2, ld3, ld4, ld5, ld6, ld7⟩ := opC_ok o
  have hla := limbs_len o.at_
  have hlf := limbs_len o.from_
  have hln := limbs_len o.len
  have hlw := limbs_len o.word
  have hl32 := limbs_len 32
  have hl1 := limbs_len 1
  have hld := limbs_len o.data.length
  have hb18 : BoxLit 18 := ⟨trivial⟩
  have hb43 : BoxLit 43 := ⟨trivial⟩
  have hrd : RoundsOf 4 := ⟨trivial⟩
  have hXl : ((limbs o.at_).map uK ++ (limbs o.len).map uK).length = 8 := by rw [List.length_append, List.length_map, List.length_map, hla, hln]
  clear hvl hm hg
  rw [hk] at ld1
  refine LM.enter tt Try.func17 rfl rfl rfl (by kernel_rfl) rfl rfl rfl (fun o mo h => by rw [h.2]; rfl) fun F _ => ?_
  exact wk trueW trueW trueW
set_option maxHeartbeats 4000000 in
theorem do_store (g : Nat) (l : List UInt8) (o : My.MOp) (m g' : Nat) (l' : List UInt8) (ho : o.ok) (hk : o.kind = 2) (hL : l.length ≤ 4096) (hm : My.need l.length o.at_ 32 = some m) (hg : My.grow ⟨g, l⟩ m = ⟨g', l'⟩) (h2 : m ≤ 4096) (h3 : l'.length = m) (h1 : o.at_ + 32 ≤ m) :
    LM Try.prog 17 [.p 1000 0, .a (opC o)] (memI 1000 1001 g l) fun out m' => out = .ret (ans0 0 (My.price l.length m)) ∧ m' = memJ 1000 1001 g' l'.length (put l' o.at_ (((wordB o.word).drop 0).take 32)) := by
  have c1 := Wo.IntW 32 (by unfold m64; decide)
  have c2 := Need_ok g l o.at_ 32 m ho.a (by unfold M256 m64; decide) hL hm
  have c3 := Grow g l m g' l' hL h2 hg
  have c4 := View_ok g' l' o.at_ 32 (by decide) (by omega) (by omega)
  have c5 := Wo.Bytes o.word
  have hwl := wordB_len o.word
  have hwt : (((wordB o.word).drop 0).take 32).length = 32 := by simp [hwl]
  have hmx := max0 m
  generalize wordB o.word = W at *
  generalize My.price l.length m = p at *
  obtain ⟨q1, hrf, ld1, ld2, ld3, ld4, ld5, ld6, ld7⟩ := opC_ok o
  have hla := limbs_len o.at_
  have hlf := limbs_len o.from_
  have hln := limbs_len o.len
  have hlw := limbs_len o.word
  have hl32 := limbs_len 32
  have hl1 := limbs_len 1
  have hld := limbs_len o.data.length
  have hb18 : BoxLit 18 := ⟨trivial⟩
  have hb43 : BoxLit 43 := ⟨trivial⟩
  have hrd : RoundsOf 4 := ⟨trivial⟩
  have hXl : ((limbs o.at_).map uK ++ (limbs o.len).map uK).length = 8 := by rw [List.length_append, List.length_map, List.length_map, hla, hln]
  clear hm hg
  rw [hk] at ld1
  refine LM.enter tt Try.func17 rfl rfl rfl (by kernel_rfl) rfl rfl rfl (fun o mo h => by rw [h.2]; rfl) fun F _ => ?_
  exact wk trueW trueW trueW
set_option maxHeartbeats 4000000 in
theorem do_byte (g : Nat) (l : List UInt8) (o : My.MOp) (m g' : Nat) (l' : List UInt8) (ho : o.ok) (hk : o.kind = 3) (hL : l.length ≤ 4096) (hm : My.need l.length o.at_ 1 = some m) (hg : My.grow ⟨g, l⟩ m = ⟨g', l'⟩) (h2 : m ≤ 4096) (h3 : l'.length = m) (h1 : o.at_ + 1 ≤ m) :
    LM Try.prog 17 [.p 1000 0, .a (opC o)] (memI 1000 1001 g l) fun out m' => out = .ret (ans0 0 (My.price l.length m)) ∧ m' = memJ 1000 1001 g' l'.length (l'.set o.at_ (UInt8.ofNat ((limbs o.word).getD 0 default))) := by
  have c1 := Wo.IntW 32 (by unfold m64; decide)
  have c6 := Wo.IntW 1 (by unfold m64; decide)
  have c2 := Need_ok g l o.at_ 1 m ho.a (by unfold M256 m64; decide) hL hm
  have c3 := Grow g l m g' l' hL h2 hg
  have c4 := View_ok g' l' o.at_ 1 (by decide) (by omega) (by omega)
  have hmx := max0 m
  generalize My.price l.length m = p at *
  obtain ⟨q1, hrf, ld1, ld2, ld3, ld4, ld5, ld6, ld7⟩ := opC_ok o
  have hla := limbs_len o.at_
  have hlf := limbs_len o.from_
  have hln := limbs_len o.len
  have hlw := limbs_len o.word
  have hl32 := limbs_len 32
  have hl1 := limbs_len 1
  have hld := limbs_len o.data.length
  have hb18 : BoxLit 18 := ⟨trivial⟩
  have hb43 : BoxLit 43 := ⟨trivial⟩
  have hrd : RoundsOf 4 := ⟨trivial⟩
  have hXl : ((limbs o.at_).map uK ++ (limbs o.len).map uK).length = 8 := by rw [List.length_append, List.length_map, List.length_map, hla, hln]
  clear hm hg
  rw [hk] at ld1
  refine LM.enter tt Try.func17 rfl rfl rfl (by kernel_rfl) rfl rfl rfl (fun o mo h => by rw [h.2]; rfl) fun F _ => ?_
  exact wk trueW trueW trueW
set_option maxHeartbeats 4000000 in
theorem do_copy (g : Nat) (l : List UInt8) (o : My.MOp) (m1 m2 m g' : Nat) (l' : List UInt8) (ho : o.ok) (hk : o.kind = 4) (hL : l.length ≤ 4096) (hm1 : My.need l.length o.at_ o.len = some m1) (hm2 : My.need l.length o.from_ o.len = some m2) (he : max m1 m2 = m) (hg : My.grow ⟨g, l⟩ m = ⟨g', l'⟩) (h2 : m ≤ 4096) (h3 : l'.length = m) (h0 : 0 < o.len) (h1 : o.at_ + o.len ≤ m) (h4 : o.from_ + o.len ≤ m) :
    LM Try.prog 17 [.p 1000 0, .a (opC o)] (memI 1000 1001 g l) fun out m' => out = .ret (ans0 0 (My.price l.length m)) ∧ m' = memJ 1000 1001 g' l'.length (put l' o.at_ ((l'.drop o.from_).take o.len)) := by
  have c1 := Wo.IntW 32 (by unfold m64; decide)
  have c2 := Need_ok g l o.at_ o.len m1 ho.a ho.l hL hm1
  have c5 := Need_ok g l o.from_ o.len m2 ho.f ho.l hL hm2
  have c3 := Grow g l m g' l' hL h2 hg
  have c4 := View_ok g' l' o.at_ o.len h0 (by omega) (by omega)
  have c6 := View_ok g' l' o.from_ o.len h0 (by omega) (by omega)
  have hvl : ((l'.drop o.from_).take o.len).length = o.len := by simp; omega
  have hmx := max0 m1
  have hmy := maxN m1 m2
  rw [he] at hmy
  generalize My.price l.length m = p at *
  clear hm1 hm2 hg he
  obtain ⟨q1, hrf, ld1, ld2, ld3, ld4, ld5, ld6, ld7⟩ := opC_ok o
  have hla := limbs_len o.at_
  have hlf := limbs_len o.from_
  have hln := limbs_len o.len
  have hlw := limbs_len o.word
  have hl32 := limbs_len 32
  have hl1 := limbs_len 1
  have hld := limbs_len o.data.length
  have hb18 : BoxLit 18 := ⟨trivial⟩
  have hb43 : BoxLit 43 := ⟨trivial⟩
  have hXl : ((limbs o.at_).map uK ++ (limbs o.len).map uK).length = 8 := by rw [List.length_append, List.length_map, List.length_map, hla, hln]
  rw [hk] at ld1
  refine LM.enter tt Try.func17 rfl rfl rfl (by kernel_rfl) rfl rfl rfl (fun o mo h => by rw [h.2]; rfl) fun F _ => ?_
  refine wk ?_ trueW trueW
  refine LC.loop2 (fun i S => [(0, .p 1000 0), (3, .p 3 0), (4, .p 4 0), (5, .sb 43 0 2 2), (6, .k (.int .i64 ((S : Nat) : Int))), (54, .sb 43 0 2 2), (55, .k (.int .i64 ((2 : Nat) : Int))), (56, .k (.int .i64 ((i : Nat) : Int)))]) (fun i S => [(3, .b (opC o)), (4, .b [.k (.int .i64 0), .k (.int .u64 0), .k (.int .u64 0), .k (.int .u64 0), .k (.int .u64 0), .k (.int .u64 0)]), (43, .b (((limbs o.at_).map uK ++ (limbs o.len).map uK) ++ ((limbs o.from_).map uK ++ (limbs o.len).map uK))), (1000, .b [.w 1001 g 1 0 l.length]), (1001, .w 5 1 g (l.map bK))]) (fun i S => i ≤ 2 ∧ S = ([0, m1, m].getD i 0)) ((2 - ·)) (0) (0) ⟨by omega, rfl⟩ ⟨rfl, rfl, rfl, rfl, rfl, rfl, rfl, rfl, trivial⟩ ⟨rfl, rfl, rfl, rfl, rfl, trivial⟩ rfl (by first | exact rfl | (simp only [V.cells, refsE, refsM, V.refs, V.refs.go, V.pure, V.pure.go, pure_mapq, pure_mapb, pure_mapu, refs_mapq, refs_mapb, refs_mapu, refs_append, Bool.and_true, Bool.true_and, Bool.and_self] <;> exact rfl) | (simp only [V.cells, refsE, refsM, V.refs, V.refs.go, V.pure, V.pure.go, pure_mapq, pure_mapb, pure_mapu, refs_mapq, refs_mapb, refs_mapu, refs_append, Bool.and_true, Bool.true_and, Bool.and_self, hrf] <;> exact rfl) | (simp only [V.cells, refsE, refsM, V.refs, V.refs.go, V.pure, V.pure.go, pure_mapq, pure_mapb, pure_mapu, refs_mapq, refs_mapb, refs_mapu, refs_append, Bool.and_true, Bool.true_and, Bool.and_self, hrf, hrg] <;> exact rfl) | exact lz) (by first | exact rfl | (simp only [V.cells, refsE, refsM, V.refs, V.refs.go, V.pure, V.pure.go, pure_mapq, pure_mapb, pure_mapu, refs_mapq, refs_mapb, refs_mapu, refs_append, Bool.and_true, Bool.true_and, Bool.and_self] <;> exact rfl) | (simp only [V.cells, refsE, refsM, V.refs, V.refs.go, V.pure, V.pure.go, pure_mapq, pure_mapb, pure_mapu, refs_mapq, refs_mapb, refs_mapu, refs_append, Bool.and_true, Bool.true_and, Bool.and_self, hrf] <;> exact rfl) | (simp only [V.cells, refsE, refsM, V.refs, V.refs.go, V.pure, V.pure.go, pure_mapq, pure_mapb, pure_mapu, refs_mapq, refs_mapb, refs_mapu, refs_append, Bool.and_true, Bool.true_and, Bool.and_self, hrf, hrg] <;> exact rfl) | exact lz) ?_
  rintro i S ⟨hi, hS⟩
  have hi3 : i = 0 ∨ i = 1 ∨ i = 2 := by omega
  rcases hi3 with rfl | rfl | rfl
  · have hS2 : S = 0 := hS
    subst hS2
    clear hS
    have hmx : (if ((0 : Nat) : Int) < (m1 : Int) then (m1 : Int) else ((0 : Nat) : Int)) = (m1 : Int) := max0 m1
    have hok : 0 + 1 ≤ 2 ∧ m1 = ([0, m1, m].getD (0 + 1) 0) := ⟨by omega, rfl⟩
    exact wk trueW trueW trueW
  · have hS2 : S = m1 := hS
    subst hS2
    clear hS
    have hok : 1 + 1 ≤ 2 ∧ m = ([0, S, m].getD (1 + 1) 0) := ⟨by omega, rfl⟩
    exact wk trueW trueW trueW
  · have hS2 : S = m := hS
    subst hS2
    clear hS
    exact wk trueW trueW trueW
set_option maxHeartbeats 4000000 in
theorem do_copy0 (g : Nat) (l : List UInt8) (o : My.MOp) (m1 m2 m g' : Nat) (l' : List UInt8) (ho : o.ok) (hk : o.kind = 4) (hL : l.length ≤ 4096) (hm1 : My.need l.length o.at_ o.len = some m1) (hm2 : My.need l.length o.from_ o.len = some m2) (he : max m1 m2 = m) (hg : My.grow ⟨g, l⟩ m = ⟨g', l'⟩) (h2 : m ≤ 4096) (h0 : o.len = 0) :
    LM Try.prog 17 [.p 1000 0, .a (opC o)] (memI 1000 1001 g l) fun out m' => out = .ret (ans0 0 (My.price l.length m)) ∧ m' = memI 1000 1001 g' l' := by
  have c1 := Wo.IntW 32 (by unfold m64; decide)
  have c2 := Need_ok g l o.at_ o.len m1 ho.a ho.l hL hm1
  have c5 := Need_ok g l o.from_ o.len m2 ho.f ho.l hL hm2
  have c3 := Grow g l m g' l' hL h2 hg
  have c4 := View_no g' l' o.at_ o.len h0
  have c6 := View_no g' l' o.from_ o.len h0
  have hmx := max0 m1
  have hmy := maxN m1 m2
  rw [he] at hmy
  generalize My.price l.length m = p at *
  clear hm1 hm2 hg he h0
  obtain ⟨q1, hrf, ld1, ld2, ld3, ld4, ld5, ld6, ld7⟩ := opC_ok o
  have hla := limbs_len o.at_
  have hlf := limbs_len o.from_
  have hln := limbs_len o.len
  have hlw := limbs_len o.word
  have hl32 := limbs_len 32
  have hl1 := limbs_len 1
  have hld := limbs_len o.data.length
  have hb18 : BoxLit 18 := ⟨trivial⟩
  have hb43 : BoxLit 43 := ⟨trivial⟩
  have hXl : ((limbs o.at_).map uK ++ (limbs o.len).map uK).length = 8 := by rw [List.length_append, List.length_map, List.length_map, hla, hln]
  rw [hk] at ld1
  refine LM.enter tt Try.func17 rfl rfl rfl (by kernel_rfl) rfl rfl rfl (fun o mo h => by rw [h.2]; rfl) fun F _ => ?_
  refine wk ?_ trueW trueW
  refine LC.loop2 (fun i S => [(0, .p 1000 0), (3, .p 3 0), (4, .p 4 0), (5, .sb 43 0 2 2), (6, .k (.int .i64 ((S : Nat) : Int))), (54, .sb 43 0 2 2), (55, .k (.int .i64 ((2 : Nat) : Int))), (56, .k (.int .i64 ((i : Nat) : Int)))]) (fun i S => [(3, .b (opC o)), (4, .b [.k (.int .i64 0), .k (.int .u64 0), .k (.int .u64 0), .k (.int .u64 0), .k (.int .u64 0), .k (.int .u64 0)]), (43, .b (((limbs o.at_).map uK ++ (limbs o.len).map uK) ++ ((limbs o.from_).map uK ++ (limbs o.len).map uK))), (1000, .b [.w 1001 g 1 0 l.length]), (1001, .w 5 1 g (l.map bK))]) (fun i S => i ≤ 2 ∧ S = ([0, m1, m].getD i 0)) ((2 - ·)) (0) (0) ⟨by omega, rfl⟩ ⟨rfl, rfl, rfl, rfl, rfl, rfl, rfl, rfl, trivial⟩ ⟨rfl, rfl, rfl, rfl, rfl, trivial⟩ rfl (by first | exact rfl | (simp only [V.cells, refsE, refsM, V.refs, V.refs.go, V.pure, V.pure.go, pure_mapq, pure_mapb, pure_mapu, refs_mapq, refs_mapb, refs_mapu, refs_append, Bool.and_true, Bool.true_and, Bool.and_self] <;> exact rfl) | (simp only [V.cells, refsE, refsM, V.refs, V.refs.go, V.pure, V.pure.go, pure_mapq, pure_mapb, pure_mapu, refs_mapq, refs_mapb, refs_mapu, refs_append, Bool.and_true, Bool.true_and, Bool.and_self, hrf] <;> exact rfl) | (simp only [V.cells, refsE, refsM, V.refs, V.refs.go, V.pure, V.pure.go, pure_mapq, pure_mapb, pure_mapu, refs_mapq, refs_mapb, refs_mapu, refs_append, Bool.and_true, Bool.true_and, Bool.and_self, hrf, hrg] <;> exact rfl) | exact lz) (by first | exact rfl | (simp only [V.cells, refsE, refsM, V.refs, V.refs.go, V.pure, V.pure.go, pure_mapq, pure_mapb, pure_mapu, refs_mapq, refs_mapb, refs_mapu, refs_append, Bool.and_true, Bool.true_and, Bool.and_self] <;> exact rfl) | (simp only [V.cells, refsE, refsM, V.refs, V.refs.go, V.pure, V.pure.go, pure_mapq, pure_mapb, pure_mapu, refs_mapq, refs_mapb, refs_mapu, refs_append, Bool.and_true, Bool.true_and, Bool.and_self, hrf] <;> exact rfl) | (simp only [V.cells, refsE, refsM, V.refs, V.refs.go, V.pure, V.pure.go, pure_mapq, pure_mapb, pure_mapu, refs_mapq, refs_mapb, refs_mapu, refs_append, Bool.and_true, Bool.true_and, Bool.and_self, hrf, hrg] <;> exact rfl) | exact lz) ?_
  rintro i S ⟨hi, hS⟩
  have hi3 : i = 0 ∨ i = 1 ∨ i = 2 := by omega
  rcases hi3 with rfl | rfl | rfl
  · have hS2 : S = 0 := hS
    subst hS2
    clear hS
    have hmx : (if ((0 : Nat) : Int) < (m1 : Int) then (m1 : Int) else ((0 : Nat) : Int)) = (m1 : Int) := max0 m1
    have hok : 0 + 1 ≤ 2 ∧ m1 = ([0, m1, m].getD (0 + 1) 0) := ⟨by omega, rfl⟩
    exact wk trueW trueW trueW
  · have hS2 : S = m1 := hS
    subst hS2
    clear hS
    have hok : 1 + 1 ≤ 2 ∧ m = ([0, S, m].getD (1 + 1) 0) := ⟨by omega, rfl⟩
    exact wk trueW trueW trueW
  · have hS2 : S = m := hS
    subst hS2
    clear hS
    exact wk trueW trueW trueW
set_option maxHeartbeats 4000000 in
theorem do_put (g : Nat) (l : List UInt8) (o : My.MOp) (m g' : Nat) (l' : List UInt8) (ho : o.ok) (hk : o.kind = 5) (hL : l.length ≤ 4096) (hm : My.need l.length o.at_ o.data.length = some m) (hg : My.grow ⟨g, l⟩ m = ⟨g', l'⟩) (h2 : m ≤ 4096) (h3 : l'.length = m) (hd : o.data.length < 1099511627776) (h0 : 0 < o.data.length) (h1 : o.at_ + o.data.length ≤ m) :
    LM Try.prog 17 [.p 1000 0, .a (opC o)] (memI 1000 1001 g l) fun out m' => out = .ret (ans0 0 (My.price l.length m)) ∧ m' = memJ 1000 1001 g' l'.length (put l' o.at_ o.data) := by
  have c1 := Wo.IntW 32 (by unfold m64; decide)
  have c6 := Wo.IntW o.data.length (small64' hd)
  have c2 := Need_ok g l o.at_ o.data.length m ho.a (small256 hd) hL hm
  have c3 := Grow g l m g' l' hL h2 hg
  have c4 := View_ok g' l' o.at_ o.data.length h0 (by omega) (by omega)
  have hmx := max0 m
  generalize My.price l.length m = p at *
  obtain ⟨q1, hrf, ld1, ld2, ld3, ld4, ld5, ld6, ld7⟩ := opC_ok o
  have hla := limbs_len o.at_
  have hlf := limbs_len o.from_
  have hln := limbs_len o.len
  have hlw := limbs_len o.word
  have hl32 := limbs_len 32
  have hl1 := limbs_len 1
  have hld := limbs_len o.data.length
  have hb18 : BoxLit 18 := ⟨trivial⟩
  have hb43 : BoxLit 43 := ⟨trivial⟩
  have hrd : RoundsOf 4 := ⟨trivial⟩
  have hXl : ((limbs o.at_).map uK ++ (limbs o.len).map uK).length = 8 := by rw [List.length_append, List.length_map, List.length_map, hla, hln]
  clear hm hg
  rw [hk] at ld1
  refine LM.enter tt Try.func17 rfl rfl rfl (by kernel_rfl) rfl rfl rfl (fun o mo h => by rw [h.2]; rfl) fun F _ => ?_
  exact wk trueW trueW trueW
set_option maxHeartbeats 4000000 in
theorem do_put0 (g : Nat) (l : List UInt8) (o : My.MOp) (m g' : Nat) (l' : List UInt8) (ho : o.ok) (hk : o.kind = 5) (hL : l.length ≤ 4096) (hm : My.need l.length o.at_ o.data.length = some m) (hg : My.grow ⟨g, l⟩ m = ⟨g', l'⟩) (h2 : m ≤ 4096) (hd : o.data.length < 1099511627776) (h0 : o.data.length = 0) :
    LM Try.prog 17 [.p 1000 0, .a (opC o)] (memI 1000 1001 g l) fun out m' => out = .ret (ans0 0 (My.price l.length m)) ∧ m' = memI 1000 1001 g' l' := by
  have c1 := Wo.IntW 32 (by unfold m64; decide)
  have c6 := Wo.IntW o.data.length (small64' hd)
  have c2 := Need_ok g l o.at_ o.data.length m ho.a (small256 hd) hL hm
  have c3 := Grow g l m g' l' hL h2 hg
  have c4 := View_no g' l' o.at_ o.data.length h0
  have hmx := max0 m
  generalize My.price l.length m = p at *
  obtain ⟨q1, hrf, ld1, ld2, ld3, ld4, ld5, ld6, ld7⟩ := opC_ok o
  have hla := limbs_len o.at_
  have hlf := limbs_len o.from_
  have hln := limbs_len o.len
  have hlw := limbs_len o.word
  have hl32 := limbs_len 32
  have hl1 := limbs_len 1
  have hld := limbs_len o.data.length
  have hb18 : BoxLit 18 := ⟨trivial⟩
  have hb43 : BoxLit 43 := ⟨trivial⟩
  have hrd : RoundsOf 4 := ⟨trivial⟩
  have hXl : ((limbs o.at_).map uK ++ (limbs o.len).map uK).length = 8 := by rw [List.length_append, List.length_map, List.length_map, hla, hln]
  clear hm hg
  rw [hk] at ld1
  refine LM.enter tt Try.func17 rfl rfl rfl (by kernel_rfl) rfl rfl rfl (fun o mo h => by rw [h.2]; rfl) fun F _ => ?_
  exact wk trueW trueW trueW
set_option maxHeartbeats 4000000 in
theorem do_no1 (g : Nat) (l : List UInt8) (o : My.MOp) (ho : o.ok) (hk : o.kind = 1) (hL : l.length ≤ 4096) (hm : My.need l.length o.at_ 32 = none) :
    LM Try.prog 17 [.p 1000 0, .a (opC o)] (memI 1000 1001 g l) fun out m' => out = .ret (ans0 6 0) ∧ m' = memI 1000 1001 g l := by
  have c1 := Wo.IntW 32 (by unfold m64; decide)
  have c2 := Need_no g l o.at_ 32 ho.a (by unfold M256 m64; decide) hL hm
  obtain ⟨q1, hrf, ld1, ld2, ld3, ld4, ld5, ld6, ld7⟩ := opC_ok o
  have hla := limbs_len o.at_
  have hlf := limbs_len o.from_
  have hln := limbs_len o.len
  have hlw := limbs_len o.word
  have hl32 := limbs_len 32
  have hl1 := limbs_len 1
  have hld := limbs_len o.data.length
  have hb18 : BoxLit 18 := ⟨trivial⟩
  have hb43 : BoxLit 43 := ⟨trivial⟩
  have hrd : RoundsOf 4 := ⟨trivial⟩
  have hXl : ((limbs o.at_).map uK ++ (limbs o.len).map uK).length = 8 := by rw [List.length_append, List.length_map, List.length_map, hla, hln]
  rw [hk] at ld1
  refine LM.enter tt Try.func17 rfl rfl rfl (by kernel_rfl) rfl rfl rfl (fun o mo h => by rw [h.2]; rfl) fun F _ => ?_
  exact wk trueW trueW trueW
set_option maxHeartbeats 4000000 in
theorem do_no2 (g : Nat) (l : List UInt8) (o : My.MOp) (ho : o.ok) (hk : o.kind = 2) (hL : l.length ≤ 4096) (hm : My.need l.length o.at_ 32 = none) :
    LM Try.prog 17 [.p 1000 0, .a (opC o)] (memI 1000 1001 g l) fun out m' => out = .ret (ans0 6 0) ∧ m' = memI 1000 1001 g l := by
  have c1 := Wo.IntW 32 (by unfold m64; decide)
  have c2 := Need_no g l o.at_ 32 ho.a (by unfold M256 m64; decide) hL hm
  obtain ⟨q1, hrf, ld1, ld2, ld3, ld4, ld5, ld6, ld7⟩ := opC_ok o
  have hla := limbs_len o.at_
  have hlf := limbs_len o.from_
  have hln := limbs_len o.len
  have hlw := limbs_len o.word
  have hl32 := limbs_len 32
  have hl1 := limbs_len 1
  have hld := limbs_len o.data.length
  have hb18 : BoxLit 18 := ⟨trivial⟩
  have hb43 : BoxLit 43 := ⟨trivial⟩
  have hrd : RoundsOf 4 := ⟨trivial⟩
  have hXl : ((limbs o.at_).map uK ++ (limbs o.len).map uK).length = 8 := by rw [List.length_append, List.length_map, List.length_map, hla, hln]
  rw [hk] at ld1
  refine LM.enter tt Try.func17 rfl rfl rfl (by kernel_rfl) rfl rfl rfl (fun o mo h => by rw [h.2]; rfl) fun F _ => ?_
  exact wk trueW trueW trueW
set_option maxHeartbeats 4000000 in
theorem do_no3 (g : Nat) (l : List UInt8) (o : My.MOp) (ho : o.ok) (hk : o.kind = 3) (hL : l.length ≤ 4096) (hm : My.need l.length o.at_ 1 = none) :
    LM Try.prog 17 [.p 1000 0, .a (opC o)] (memI 1000 1001 g l) fun out m' => out = .ret (ans0 6 0) ∧ m' = memI 1000 1001 g l := by
  have c1 := Wo.IntW 32 (by unfold m64; decide)
  have c6 := Wo.IntW 1 (by unfold m64; decide)
  have c2 := Need_no g l o.at_ 1 ho.a (by unfold M256 m64; decide) hL hm
  obtain ⟨q1, hrf, ld1, ld2, ld3, ld4, ld5, ld6, ld7⟩ := opC_ok o
  have hla := limbs_len o.at_
  have hlf := limbs_len o.from_
  have hln := limbs_len o.len
  have hlw := limbs_len o.word
  have hl32 := limbs_len 32
  have hl1 := limbs_len 1
  have hld := limbs_len o.data.length
  have hb18 : BoxLit 18 := ⟨trivial⟩
  have hb43 : BoxLit 43 := ⟨trivial⟩
  have hrd : RoundsOf 4 := ⟨trivial⟩
  have hXl : ((limbs o.at_).map uK ++ (limbs o.len).map uK).length = 8 := by rw [List.length_append, List.length_map, List.length_map, hla, hln]
  rw [hk] at ld1
  refine LM.enter tt Try.func17 rfl rfl rfl (by kernel_rfl) rfl rfl rfl (fun o mo h => by rw [h.2]; rfl) fun F _ => ?_
  exact wk trueW trueW trueW
set_option maxHeartbeats 4000000 in
theorem do_no5 (g : Nat) (l : List UInt8) (o : My.MOp) (ho : o.ok) (hk : o.kind = 5) (hL : l.length ≤ 4096) (hd : o.data.length < 1099511627776) (hm : My.need l.length o.at_ o.data.length = none) :
    LM Try.prog 17 [.p 1000 0, .a (opC o)] (memI 1000 1001 g l) fun out m' => out = .ret (ans0 6 0) ∧ m' = memI 1000 1001 g l := by
  have c1 := Wo.IntW 32 (by unfold m64; decide)
  have c6 := Wo.IntW o.data.length (small64' hd)
  have c2 := Need_no g l o.at_ o.data.length ho.a (small256 hd) hL hm
  obtain ⟨q1, hrf, ld1, ld2, ld3, ld4, ld5, ld6, ld7⟩ := opC_ok o
  have hla := limbs_len o.at_
  have hlf := limbs_len o.from_
  have hln := limbs_len o.len
  have hlw := limbs_len o.word
  have hl32 := limbs_len 32
  have hl1 := limbs_len 1
  have hld := limbs_len o.data.length
  have hb18 : BoxLit 18 := ⟨trivial⟩
  have hb43 : BoxLit 43 := ⟨trivial⟩
  have hrd : RoundsOf 4 := ⟨trivial⟩
  have hXl : ((limbs o.at_).map uK ++ (limbs o.len).map uK).length = 8 := by rw [List.length_append, List.length_map, List.length_map, hla, hln]
  rw [hk] at ld1
  refine LM.enter tt Try.func17 rfl rfl rfl (by kernel_rfl) rfl rfl rfl (fun o mo h => by rw [h.2]; rfl) fun F _ => ?_
  exact wk trueW trueW trueW
set_option maxHeartbeats 4000000 in
theorem do_no4a (g : Nat) (l : List UInt8) (o : My.MOp) (ho : o.ok) (hk : o.kind = 4) (hL : l.length ≤ 4096) (hm : My.need l.length o.at_ o.len = none) :
    LM Try.prog 17 [.p 1000 0, .a (opC o)] (memI 1000 1001 g l) fun out m' => out = .ret (ans0 6 0) ∧ m' = memI 1000 1001 g l := by
  have c1 := Wo.IntW 32 (by unfold m64; decide)
  have c2 := Need_no g l o.at_ o.len ho.a ho.l hL hm
  obtain ⟨q1, hrf, ld1, ld2, ld3, ld4, ld5, ld6, ld7⟩ := opC_ok o
  have hla := limbs_len o.at_
  have hlf := limbs_len o.from_
  have hln := limbs_len o.len
  have hlw := limbs_len o.word
  have hl32 := limbs_len 32
  have hl1 := limbs_len 1
  have hld := limbs_len o.data.length
  have hb18 : BoxLit 18 := ⟨trivial⟩
  have hb43 : BoxLit 43 := ⟨trivial⟩
  have hrd : RoundsOf 4 := ⟨trivial⟩
  have hXl : ((limbs o.at_).map uK ++ (limbs o.len).map uK).length = 8 := by rw [List.length_append, List.length_map, List.length_map, hla, hln]
  rw [hk] at ld1
  refine LM.enter tt Try.func17 rfl rfl rfl (by kernel_rfl) rfl rfl rfl (fun o mo h => by rw [h.2]; rfl) fun F _ => ?_
  exact wk trueW trueW trueW
set_option maxHeartbeats 4000000 in
theorem do_no4b (g : Nat) (l : List UInt8) (o : My.MOp) (m1 : Nat) (ho : o.ok) (hk : o.kind = 4) (hL : l.length ≤ 4096) (hm1 : My.need l.length o.at_ o.len = some m1) (hm : My.need l.length o.from_ o.len = none) :
    LM Try.prog 17 [.p 1000 0, .a (opC o)] (memI 1000 1001 g l) fun out m' => out = .ret (ans0 6 0) ∧ m' = memI 1000 1001 g l := by
  have c1 := Wo.IntW 32 (by unfold m64; decide)
  have c2 := Need_ok g l o.at_ o.len m1 ho.a ho.l hL hm1
  have c5 := Need_no g l o.from_ o.len ho.f ho.l hL hm
  have hmx := max0 m1
  obtain ⟨q1, hrf, ld1, ld2, ld3, ld4, ld5, ld6, ld7⟩ := opC_ok o
  have hla := limbs_len o.at_
  have hlf := limbs_len o.from_
  have hln := limbs_len o.len
  have hlw := limbs_len o.word
  have hl32 := limbs_len 32
  have hl1 := limbs_len 1
  have hld := limbs_len o.data.length
  have hb18 : BoxLit 18 := ⟨trivial⟩
  have hb43 : BoxLit 43 := ⟨trivial⟩
  have hXl : ((limbs o.at_).map uK ++ (limbs o.len).map uK).length = 8 := by rw [List.length_append, List.length_map, List.length_map, hla, hln]
  rw [hk] at ld1
  refine LM.enter tt Try.func17 rfl rfl rfl (by kernel_rfl) rfl rfl rfl (fun o mo h => by rw [h.2]; rfl) fun F _ => ?_
  refine wk ?_ trueW trueW
  refine LC.loop2 (fun i S => [(0, .p 1000 0), (3, .p 3 0), (4, .p 4 0), (5, .sb 43 0 2 2), (6, .k (.int .i64 ((S : Nat) : Int))), (54, .sb 43 0 2 2), (55, .k (.int .i64 ((2 : Nat) : Int))), (56, .k (.int .i64 ((i : Nat) : Int)))]) (fun i S => [(3, .b (opC o)), (4, .b [.k (.int .i64 0), .k (.int .u64 0), .k (.int .u64 0), .k (.int .u64 0), .k (.int .u64 0), .k (.int .u64 0)]), (43, .b (((limbs o.at_).map uK ++ (limbs o.len).map uK) ++ ((limbs o.from_).map uK ++ (limbs o.len).map uK))), (1000, .b [.w 1001 g 1 0 l.length]), (1001, .w 5 1 g (l.map bK))]) (fun i S => i ≤ 1 ∧ S = ([0, m1, 0].getD i 0)) ((2 - ·)) (0) (0) ⟨by omega, rfl⟩ ⟨rfl, rfl, rfl, rfl, rfl, rfl, rfl, rfl, trivial⟩ ⟨rfl, rfl, rfl, rfl, rfl, trivial⟩ rfl (by first | exact rfl | (simp only [V.cells, refsE, refsM, V.refs, V.refs.go, V.pure, V.pure.go, pure_mapq, pure_mapb, pure_mapu, refs_mapq, refs_mapb, refs_mapu, refs_append, Bool.and_true, Bool.true_and, Bool.and_self] <;> exact rfl) | (simp only [V.cells, refsE, refsM, V.refs, V.refs.go, V.pure, V.pure.go, pure_mapq, pure_mapb, pure_mapu, refs_mapq, refs_mapb, refs_mapu, refs_append, Bool.and_true, Bool.true_and, Bool.and_self, hrf] <;> exact rfl) | (simp only [V.cells, refsE, refsM, V.refs, V.refs.go, V.pure, V.pure.go, pure_mapq, pure_mapb, pure_mapu, refs_mapq, refs_mapb, refs_mapu, refs_append, Bool.and_true, Bool.true_and, Bool.and_self, hrf, hrg] <;> exact rfl) | exact lz) (by first | exact rfl | (simp only [V.cells, refsE, refsM, V.refs, V.refs.go, V.pure, V.pure.go, pure_mapq, pure_mapb, pure_mapu, refs_mapq, refs_mapb, refs_mapu, refs_append, Bool.and_true, Bool.true_and, Bool.and_self] <;> exact rfl) | (simp only [V.cells, refsE, refsM, V.refs, V.refs.go, V.pure, V.pure.go, pure_mapq, pure_mapb, pure_mapu, refs_mapq, refs_mapb, refs_mapu, refs_append, Bool.and_true, Bool.true_and, Bool.and_self, hrf] <;> exact rfl) | (simp only [V.cells, refsE, refsM, V.refs, V.refs.go, V.pure, V.pure.go, pure_mapq, pure_mapb, pure_mapu, refs_mapq, refs_mapb, refs_mapu, refs_append, Bool.and_true, Bool.true_and, Bool.and_self, hrf, hrg] <;> exact rfl) | exact lz) ?_
  rintro i S ⟨hi, hS⟩
  have hi3 : i = 0 ∨ i = 1 := by omega
  rcases hi3 with rfl | rfl
  · have hS2 : S = 0 := hS
    subst hS2
    clear hS
    have hmx : (if ((0 : Nat) : Int) < (m1 : Int) then (m1 : Int) else ((0 : Nat) : Int)) = (m1 : Int) := max0 m1
    have hok : 0 + 1 ≤ 1 ∧ m1 = ([0, m1, 0].getD (0 + 1) 0) := ⟨by omega, rfl⟩
    exact wk trueW trueW trueW
  · have hS2 : S = m1 := hS
    subst hS2
    clear hS
    exact wk trueW trueW trueW
set_option maxHeartbeats 4000000 in
theorem do_kind (g : Nat) (l : List UInt8) (o : My.MOp) (hk1 : ¬ o.kind = 1) (hk2 : ¬ o.kind = 2) (hk3 : ¬ o.kind = 3) (hk4 : ¬ o.kind = 4) (hk5 : ¬ o.kind = 5) :
    LM Try.prog 17 [.p 1000 0, .a (opC o)] (memI 1000 1001 g l) fun out m' => out = .ret (ans0 30 0) ∧ m' = memI 1000 1001 g l := by
  have c1 := Wo.IntW 32 (by unfold m64; decide)
  obtain ⟨q1, hrf, ld1, ld2, ld3, ld4, ld5, ld6, ld7⟩ := opC_ok o
  have hla := limbs_len o.at_
  have hlf := limbs_len o.from_
  have hln := limbs_len o.len
  have hlw := limbs_len o.word
  have hl32 := limbs_len 32
  have hl1 := limbs_len 1
  have hld := limbs_len o.data.length
  have hb18 : BoxLit 18 := ⟨trivial⟩
  have hb43 : BoxLit 43 := ⟨trivial⟩
  have hrd : RoundsOf 4 := ⟨trivial⟩
  have hXl : ((limbs o.at_).map uK ++ (limbs o.len).map uK).length = 8 := by rw [List.length_append, List.length_map, List.length_map, hla, hln]
  refine LM.enter tt Try.func17 rfl rfl rfl (by kernel_rfl) rfl rfl rfl (fun o mo h => by rw [h.2]; rfl) fun F _ => ?_
  exact wk trueW trueW trueW
end Mw
end Lf
end Go.Proofs.Ytgioofknlbdfjaa

/- A slice held against nil; a fresh row that a call hands back; Clone. -/
namespace Go.Proofs.Ytgioofknlbdfjaa
open Go.RowKit Rg
namespace Lf
section
variable {P : Program} {F : Fr0} {N : Nat} {Q : LQ} {env : Env} {mem : Mem} {ops : Array Oper} {o : Oper} {rs : List Oper} {d : Nat}
/-- Whether a slice is nil is not told: both ways are walked. -/
theorem LS.eqNil {T Y e : Nat} {x : Operand} {t : Option Nat} {es : List V} (X : TOk P) {ti : TI} (hg : gd ops env o = some true) (hds : o.dst = some d) (ho : o.op = .binOp .eql T x (.const (.slice none 0 0)) Y) (hx : evo env x = some (.s t es)) (hT : aget X.tab T = some ti) (hdt : ti.d = .sl e) (hd : Nat.blt d N = true)
    (h1 : es = [] → LS P F N ops rs Q ((d, .k (.bool true)) :: env) mem) (h2 : LS P F N ops rs Q ((d, .k (.bool false)) :: env) mem) : LS P F N ops (o :: rs) Q env mem := ⟨fun g a w hr => by
  have hu := (X.get hT).sl hdt
  have hgt : P.eqGuardType P.depth T = false := by
    obtain ⟨m, hm⟩ : ∃ m, P.depth = m + 1 := ⟨2 * (P.types.size + Made.depth) + 1, rfl⟩
    rw [hm]
    simp [Program.eqGuardType, hu]
  have hrun : ∀ (ad : Option Addr) (n c : Nat), a.eval x = .slice ad n c → (execOp a.eval o).run P w = .ok (.value (.bool ad.isNone)) w := fun ad n c h => by
    have q1 : (eqGuard .eql T x (.const (.slice none 0 0)) (.slice ad n c) (.slice none 0 0)).run P w = .ok () w := by
      unfold eqGuard
      simp [hgt, program, Sem.run]
    have q2 : (binOp .eql T (.slice ad n c) (.slice none 0 0)).run P w = .ok (.bool ad.isNone) w := by
      have e : Op.equal T (.slice ad n c) (.slice none 0 0) = Op.equalIn (9999 + 1) T (.slice ad n c) (.slice none 0 0) := rfl
      have q3 : (Op.equalIn (9999 + 1) T (.slice ad n c) (.slice none 0 0)).run P w = .ok ad.isNone w := by
        rw [Op.equalIn, Sem.run_bind, run_underlying hu w]
        cases ad <;> rfl
      simp only [binOp, e, Sem.run_bind, q3, Result.andThen_ok]
      rfl
    have hx2 : a.eval (.const (.slice none 0 0)) = .slice none 0 0 := rfl
    simp only [execOp, ho, h, hx2, Sem.run_bind, q1, Result.andThen_ok, q2]
    rfl
  have hdd : dok o.dst N = true := by rw [hds]; exact hd
  have hrep := hr.evo hx
  refine wpList_step fun K hK => ?_
  rw [gd_wanted hr hg, if_pos rfl]
  have go : ∀ b : Bool, (execOp a.eval o).run P w = .ok (.value (.bool b)) w → LS P F N ops rs Q ((d, .k (.bool b)) :: env) mem → o.wp P a w K (liftQ F N Q) := fun b hb hl => by
    unfold Oper.wp
    rw [hb]
    refine hK _ _ (hl.go g _ w ?_)
    have := hr.put (Ev.refl g w) hr.mem hr.kept (Rep.k (w := w) (g := g) (.bool b)) hdd
    rw [hds] at this
    rw [hds]
    exact this
  generalize hv : a.eval x = v at hrep
  cases hrep with
  | s0 => exact go true (hrun _ _ _ hv) (h1 rfl)
  | se => exact go false (hrun _ _ _ hv) h2
  | s => exact go false (hrun _ _ _ hv) h2⟩
end
theorem LM.row1 {P : Program} {f : Nat} {args es : List V} {E sz n k0 : Nat} (hA : ∀ (ρ : Nat → Nat), args.map (V.ren ρ) = args) (h : LM P f args [] fun o m => o = .ret (.s (some k0) es) ∧ m = [(k0, .r E sz n)]) (k : Nat) : LM P f args [] fun o m => o = .ret (.s (some k) es) ∧ m = [(k, .r E sz n)] :=
  LM.gen [k0] [k] (by simp) (by simp) rfl h fun ρ hρ => by
    simp at hρ
    refine ⟨hA _, rfl, ?_, ?_⟩
    · simp [Out.ren, V.ren, hρ]
    · simp [Mem.ren, M.ren, hρ]
/-- A call that hands back a fresh row. -/
theorem DR.cr {P : Program} {N : Nat} {ops : Array Oper} {chk : List (Nat × Tch) → Bool} {K : Env → Mem → Prop} {acc : List (Nat × Tch)} {env : Env} {mem : Mem} {i d : Nat} {o : Oper} {rs : List (Nat × Oper)} {fx E sz n : Nat} {xs : List Operand} {ts : Array Nat} {us args es : List V}
    (ho : o.op = .call { callee := .value (.func fx), args := xs.toArray, argTypes := ts }) (hg : gd ops env o = some true) (hds : o.dst = some d) (hx : evs env xs = some us) (hc : ∀ k, LM P fx args [] fun o m => o = .ret (.s (some k) es) ∧ m = [(k, .r E sz n)]) (hu : Fits us args) (hr : V.refs.go [] args = true) (ht : aget mem d = none) (hd : Nat.blt d N = true)
    (hK : DR P N ops chk K rs ((i, callT [] [(d, .r E sz n)]) :: acc) ((d, .s (some d) es) :: env) ((d, .r E sz n) :: mem)) : DR P N ops chk K ((i, o) :: rs) acc env mem :=
  DR.cm hg hds (Does.callM (hc d) ho hx hu (by rw [hr]; rfl)) ⟨ht, trivial⟩ hd hK
namespace Sl2
theorem CloneMO (es : List V) (hs : ∀ e ∈ es, e.cells.length = 18) (hl : es.length < 1073741824) (k : Nat) : LM Try.prog 11 [.s none es] [] fun o m => o = .ret (.s (some k) es) ∧ m = [(k, .r 38 18 es.length)] := by
  refine LM.row1 (k0 := 5) (fun _ => rfl) ?_ k
  refine LFx.mk' tt Try.func11 rfl rfl rfl (by kernel_rfl) rfl rfl fun F => ?_
  refine LC.seq (LC.region (LS.pp rfl rfl (Does.assign rfl rfl) rfl (LS.nil ?_)))
  refine LC.seq (LC.seq (LC.region (LS.pp rfl rfl (Does.move rfl rfl) rfl (LS.eqNil tt rfl rfl rfl rfl rfl rfl rfl (fun he => LS.nil ?_) (LS.nil ?_)))))
  · subst he
    refine LC.condT rfl (LC.seq (LC.region (LS.pp rfl rfl (Does.assign rfl rfl) rfl (LS.nil ?_))))
    refine LC.nilrow 2 5 38 18 rfl rfl rfl ?_
    exact wk trueW trueW trueW
  · refine LC.condF rfl ?_
    exact wk trueW trueW trueW
end Sl2
end Lf
end Go.Proofs.Ytgioofknlbdfjaa

/- Package memory: do for every operation; Play. -/
namespace Go.Proofs.Ytgioofknlbdfjaa
open Go.RowKit Rg Wm Ar
set_option maxRecDepth 100000
namespace Lf
theorem ans0_eq (e : Int) (p : Nat) : ans0 e p = .a (ansC ⟨e, 0, p⟩) := by
  have h : limbs 0 = [0, 0, 0, 0] := by unfold limbs; decide
  simp only [ansC, ans0, h, List.map_cons, List.map_nil, List.cons_append, List.nil_append]
theorem of64 (w : Nat) : UInt8.ofNat ((limbs w).getD 0 default) = UInt8.ofNat w := by
  rw [limbs_get w (by decide)]
  apply UInt8.toNat_inj.1
  rw [UInt8.toNat_ofNat', UInt8.toNat_ofNat']
  unfold limb
  have : (2 : Nat) ^ 8 ∣ m64 := by unfold m64; decide
  simp only [Nat.pow_zero, Nat.div_one]
  exact Nat.mod_mod_of_dvd _ this
theorem w32 (w : Nat) : ((wordB w).drop 0).take 32 = wordB w := by rw [List.drop_zero]; exact List.take_of_length_le (by rw [wordB_len]; exact Nat.le_refl _)
namespace Mw
theorem do_ (s : My.St) (o : My.MOp) (ho : o.ok) (hd : o.data.length < 1099511627776) (hs : My.Good s.l) : LM Try.prog 17 [.p 1000 0, .a (opC o)] (memI 1000 1001 s.gen s.l) fun out m => out = .ret (.a (ansC (My.run1 s o).1)) ∧ m = memI 1000 1001 (My.run1 s o).2.gen (My.run1 s o).2.l := by
  obtain ⟨g, l⟩ := s
  have hL : l.length ≤ 4096 := hs.le
  by_cases hkn : My.known o = true
  · have hkk := of_decide_eq_true hkn
    cases hz : My.sizeOf l.length o with
    | none =>
      have e : My.run1 ⟨g, l⟩ o = (⟨6, 0, 0⟩, ⟨g, l⟩) := by unfold My.run1; rw [if_pos hkn, hz]
      rw [e]
      show LM _ _ _ (memI 1000 1001 g l) fun out m => out = .ret (.a (ansC ⟨6, 0, 0⟩)) ∧ m = memI 1000 1001 g l
      rw [← ans0_eq]
      unfold My.sizeOf at hz
      rcases hkk with hk | hk | hk | hk | hk
      · rw [if_pos (.inl hk)] at hz; exact do_no1 g l o ho hk hL hz
      · rw [if_pos (.inr hk)] at hz; exact do_no2 g l o ho hk hL hz
      · rw [if_neg (by omega), if_pos hk] at hz; exact do_no3 g l o ho hk hL hz
      · rw [if_neg (by omega), if_neg (by omega), if_pos hk] at hz
        unfold My.size2 at hz
        cases h1 : My.need l.length o.at_ o.len with
        | none => exact do_no4a g l o ho hk hL h1
        | some m1 =>
          cases h2 : My.need l.length o.from_ o.len with
          | none => exact do_no4b g l o m1 ho hk hL h1 h2
          | some m2 => rw [h1, h2] at hz; cases hz
      · rw [if_neg (by omega), if_neg (by omega), if_neg (by omega)] at hz; exact do_no5 g l o ho hk hL hd hz
    | some m =>
      obtain ⟨s1, s2, s3⟩ := My.sizeOf_spec hL hs.m hz
      have hgl := My.grow_len (s := ⟨g, l⟩) (m := m) s1
      have hal := My.act_len (o := o) (l := (My.grow ⟨g, l⟩ m).l) (by rw [hgl]; exact hz) hL hs.m
      have e : My.run1 ⟨g, l⟩ o = (⟨0, (My.act o (My.grow ⟨g, l⟩ m).l).1, My.price l.length m⟩, ⟨(My.grow ⟨g, l⟩ m).gen, (My.act o (My.grow ⟨g, l⟩ m).l).2⟩) := by unfold My.run1; rw [if_pos hkn]; simp only [hz]
      rw [e]
      clear e
      generalize hg : My.grow ⟨g, l⟩ m = s' at *
      obtain ⟨g', l'⟩ := s'
      simp only at hgl hal
      show LM _ _ _ (memI 1000 1001 g l) fun out m' => out = .ret (.a (ansC ⟨0, (My.act o l').1, My.price l.length m⟩)) ∧ m' = memI 1000 1001 g' (My.act o l').2
      have hJ : memI 1000 1001 g' (My.act o l').2 = memJ 1000 1001 g' l'.length (My.act o l').2 := by rw [← hal]
      rw [hJ]
      clear hJ
      unfold My.sizeOf at hz
      rcases hkk with hk | hk | hk | hk | hk
      · rw [if_pos (.inl hk)] at hz
        have ea : My.act o l' = (Ps.beN (My.view l' o.at_ 32), l') := by unfold My.act; rw [if_pos hk]
        rw [ea]
        have hn := (My.need_spec hL hs.m hz).2.2.2 (by decide)
        exact do_load g l o m g' l' ho hk hL hz hg s2 hgl hn
      · rw [if_pos (.inr hk)] at hz
        have ea : My.act o l' = (0, put l' o.at_ (wordB o.word)) := by unfold My.act; rw [if_neg (by omega), if_pos hk]
        rw [ea, ← ans0_eq, ← w32 o.word]
        have hn := (My.need_spec hL hs.m hz).2.2.2 (by decide)
        exact do_store g l o m g' l' ho hk hL hz hg s2 hgl hn
      · rw [if_neg (by omega), if_pos hk] at hz
        have ea : My.act o l' = (0, l'.set o.at_ (UInt8.ofNat o.word)) := by unfold My.act; rw [if_neg (by omega), if_neg (by omega), if_pos hk]
        rw [ea, ← ans0_eq, ← of64 o.word]
        have hn := (My.need_spec hL hs.m hz).2.2.2 (by decide)
        exact do_byte g l o m g' l' ho hk hL hz hg s2 hgl hn
      · rw [if_neg (by omega), if_neg (by omega), if_pos hk] at hz
        have ea : My.act o l' = (0, if o.len = 0 then l' else put l' o.at_ (My.view l' o.from_ o.len)) := by unfold My.act; rw [if_neg (by omega), if_neg (by omega), if_neg (by omega), if_pos hk]
        rw [ea, ← ans0_eq]
        have hsp := My.size2_spec hL hs.m hz
        unfold My.size2 at hz
        cases h1 : My.need l.length o.at_ o.len with
        | none => rw [h1] at hz; cases hz
        | some m1 =>
          cases h2 : My.need l.length o.from_ o.len with
          | none => rw [h1, h2] at hz; cases hz
          | some m2 =>
            rw [h1, h2] at hz
            have hmx : max m1 m2 = m := by simpa using hz
            by_cases h0 : o.len = 0
            · rw [if_pos h0]
              exact do_copy0 g l o m1 m2 m g' l' ho hk hL h1 h2 hmx hg s2 h0
            · rw [if_neg h0]
              have hn := hsp.2.2.2 (by omega)
              exact do_copy g l o m1 m2 m g' l' ho hk hL h1 h2 hmx hg s2 hgl (by omega) hn.1 hn.2
      · rw [if_neg (by omega), if_neg (by omega), if_neg (by omega)] at hz
        have ea : My.act o l' = (0, if o.data.length = 0 then l' else put l' o.at_ o.data) := by unfold My.act; rw [if_neg (by omega), if_neg (by omega), if_neg (by omega), if_neg (by omega)]
        rw [ea, ← ans0_eq]
        by_cases h0 : o.data.length = 0
        · rw [if_pos h0]
          exact do_put0 g l o m g' l' ho hk hL hz hg s2 hd h0
        · rw [if_neg h0]
          have hn := (My.need_spec hL hs.m hz).2.2.2 (by omega)
          exact do_put g l o m g' l' ho hk hL hz hg s2 hgl hd (by omega) hn
  · have e : My.run1 ⟨g, l⟩ o = (⟨30, 0, 0⟩, ⟨g, l⟩) := by unfold My.run1; rw [if_neg hkn]
    rw [e]
    show LM _ _ _ (memI 1000 1001 g l) fun out m => out = .ret (.a (ansC ⟨30, 0, 0⟩)) ∧ m = memI 1000 1001 g l
    rw [← ans0_eq]
    have hkk : ¬ (o.kind = 1 ∨ o.kind = 2 ∨ o.kind = 3 ∨ o.kind = 4 ∨ o.kind = 5) := fun k => hkn (decide_eq_true k)
    exact do_kind g l o (fun k => hkk (.inl k)) (fun k => hkk (.inr (.inl k))) (fun k => hkk (.inr (.inr (.inl k)))) (fun k => hkk (.inr (.inr (.inr (.inl k))))) (fun k => hkk (.inr (.inr (.inr (.inr k)))))
/-- At other numbers. -/
theorem do_at (i j : Nat) (hij : i ≠ j) (s : My.St) (o : My.MOp) (ho : o.ok) (hd : o.data.length < 1099511627776) (hs : My.Good s.l) : LM Try.prog 17 [.p i 0, .a (opC o)] (memI i j s.gen s.l) fun out m => out = .ret (.a (ansC (My.run1 s o).1)) ∧ m = memI i j (My.run1 s o).2.gen (My.run1 s o).2.l :=
  LM.gen [1000, 1001] [i, j] (by decide) (by simp [hij]) rfl (do_ s o ho hd hs) fun ρ hρ => by
    simp only [List.map_cons, List.map_nil, List.cons.injEq, and_true] at hρ
    obtain ⟨e1, e2⟩ := hρ
    refine ⟨?_, ?_, ?_, ?_⟩
    · simp only [List.map_cons, List.map_nil, V.ren, e1, ren_go, ren_cells ((opC_ok o).refs [])]
    · simp only [memI, Mem.ren, M.ren, List.map_cons, List.map_nil, V.ren, e1, e2]
    · simp only [Out.ren, V.ren, ren_go, ren_cells (ansC_refs _ [])]
    · simp only [memI, Mem.ren, M.ren, List.map_cons, List.map_nil, V.ren, e1, e2]
end Mw
end Lf
end Go.Proofs.Ytgioofknlbdfjaa

/- Package memory: Play. -/
namespace Go.Proofs.Ytgioofknlbdfjaa
open Go.RowKit Rg Wm Ar
set_option maxRecDepth 100000
namespace Lf
abbrev opV (o : My.MOp) : V := .a (opC o)
abbrev ansV (a : My.Ans) : V := .a (ansC a)
theorem play_take {s : My.St} {ops : List My.MOp} {i : Nat} {o : My.MOp} (h : ops[i]? = some o) : My.play s (ops.take (i + 1)) = ((My.play s (ops.take i)).1 ++ [(My.run1 (My.play s (ops.take i)).2 o).1], (My.run1 (My.play s (ops.take i)).2 o).2) := by
  rw [List.take_add_one, h, My.play_app]
  rfl
instance : Inhabited My.MOp := ⟨⟨0, 0, 0, 0, 0, []⟩⟩
instance : Inhabited My.Ans := ⟨⟨0, 0, 0⟩⟩
theorem opV_bare (o : My.MOp) : (opV o).bare = some (opV o) := by
  obtain ⟨k, a, f, n, w, d⟩ := o
  obtain ⟨a0, a1, a2, a3, ha⟩ := four (limbs_len a)
  obtain ⟨f0, f1, f2, f3, hf⟩ := four (limbs_len f)
  obtain ⟨n0, n1, n2, n3, hn⟩ := four (limbs_len n)
  obtain ⟨w0, w1, w2, w3, hw⟩ := four (limbs_len w)
  simp only [opV, opC, ha, hf, hn, hw]; rfl
theorem ansV_bare (a : My.Ans) : (ansV a).bare = some (ansV a) := by
  obtain ⟨w0, w1, w2, w3, hw⟩ := four (limbs_len a.word)
  simp only [ansV, ansC, hw]; rfl
theorem opV_len (o : My.MOp) : (opV o).cells.length = 18 := (opC_ok o).len
theorem ansV_len (a : My.Ans) : (ansV a).cells.length = 6 := ansC_len a
namespace Mw
set_option maxHeartbeats 4000000 in
theorem Play (ops : List My.MOp) (hl : ops.length < 1000000000) (ho : ∀ o ∈ ops, o.ok ∧ o.data.length < 1099511627776) : LF Try.prog 9 [.s none (ops.map opV)] (fun _ => .t [.s none ((My.play My.zero ops).1.map ansV), .s none ((My.play My.zero ops).2.l.map bK)]) none := by
  have hbr := ansV_bare
  refine LFx.mk' tt Try.func9 rfl rfl rfl (by kernel_rfl) rfl rfl fun F => ?_
  refine wk ?_ trueW trueW
  refine LC.nilrow 5 60 33 6 rfl rfl rfl ?_
  refine LC.nilbuf 4 0 50 5 1 rfl rfl rfl (by decide) rfl ?_
  refine LC.loop5 (fun i A g l (_u4 : Unit) => [(4, .p 4 0), (5, .s (some 60) (A.map ansV)), (8, .s none (ops.map opV)), (9, .k (.int .i64 ((ops.length : Nat) : Int))), (10, .k (.int .i64 ((i : Nat) : Int)))]) (fun i A g l (_u4 : Unit) => [(4, .b [.w 50 g 1 0 l.length]), (50, .w 5 1 g (l.map bK)), (60, .r 33 6 A.length)]) (fun i A g l (_u4 : Unit) => i ≤ ops.length ∧ My.play My.zero (ops.take i) = (A, ⟨g, l⟩)) ((ops.length - ·)) (0) ([]) (0) ([]) () ⟨by omega, rfl⟩ ⟨rfl, rfl, rfl, rfl, rfl, trivial⟩ ⟨rfl, rfl, rfl, trivial⟩ rfl (by first | exact rfl | (simp only [V.cells, refsE, refsM, V.refs, V.refs.go, V.pure, V.pure.go, pure_mapq, pure_mapb, pure_mapu, refs_mapq, refs_mapb, refs_mapu, refs_append, Bool.and_true, Bool.true_and, Bool.and_self] <;> exact rfl) | (simp only [V.cells, refsE, refsM, V.refs, V.refs.go, V.pure, V.pure.go, pure_mapq, pure_mapb, pure_mapu, refs_mapq, refs_mapb, refs_mapu, refs_append, Bool.and_true, Bool.true_and, Bool.and_self, hrf] <;> exact rfl) | (simp only [V.cells, refsE, refsM, V.refs, V.refs.go, V.pure, V.pure.go, pure_mapq, pure_mapb, pure_mapu, refs_mapq, refs_mapb, refs_mapu, refs_append, Bool.and_true, Bool.true_and, Bool.and_self, hrf, hrg] <;> exact rfl) | exact lz) (by first | exact rfl | (simp only [V.cells, refsE, refsM, V.refs, V.refs.go, V.pure, V.pure.go, pure_mapq, pure_mapb, pure_mapu, refs_mapq, refs_mapb, refs_mapu, refs_append, Bool.and_true, Bool.true_and, Bool.and_self] <;> exact rfl) | (simp only [V.cells, refsE, refsM, V.refs, V.refs.go, V.pure, V.pure.go, pure_mapq, pure_mapb, pure_mapu, refs_mapq, refs_mapb, refs_mapu, refs_append, Bool.and_true, Bool.true_and, Bool.and_self, hrf] <;> exact rfl) | (simp only [V.cells, refsE, refsM, V.refs, V.refs.go, V.pure, V.pure.go, pure_mapq, pure_mapb, pure_mapu, refs_mapq, refs_mapb, refs_mapu, refs_append, Bool.and_true, Bool.true_and, Bool.and_self, hrf, hrg] <;> exact rfl) | exact lz) ?_
  rintro i A g l _ ⟨hi, hS⟩
  have hG := My.play_good My.zero_good (ops.take i)
  have hAl := My.play_len My.zero (ops.take i)
  rw [hS] at hG hAl
  simp only [List.length_take] at hG hAl
  rcases Nat.lt_or_ge i ops.length with h | h
  · have hA2 : A.length = i := by omega
    have hoi : ops[i]? = some (ops.getD i default) := by rw [List.getD_eq_getElem?_getD, List.getElem?_eq_getElem h]; rfl
    have hom := ho _ (List.mem_of_getElem? hoi)
    have c1 := do_at 4 50 (by decide) ⟨g, l⟩ (ops.getD i default) hom.1 hom.2 hG
    have hpt := play_take (s := My.zero) hoi
    rw [hS] at hpt
    generalize hr : My.run1 ⟨g, l⟩ (ops.getD i default) = r at *
    obtain ⟨a, g', l'⟩ := r
    simp only at c1 hpt
    have hok : i + 1 ≤ ops.length ∧ My.play My.zero (ops.take (i + 1)) = (A ++ [a], ⟨g', l'⟩) := ⟨by omega, hpt⟩
    have hq := opV_len (ops.getD i default)
    obtain ⟨q1, hrf, _, _, _, _, _, _, _⟩ := opC_ok (ops.getD i default)
    have ha2 := ansV_len a
    have hsz : ∀ e ∈ A.map ansV, e.cells.length = 6 := fun e he => by obtain ⟨x, _, rfl⟩ := List.mem_map.1 he; exact ansV_len x
    clear hpt hr hS hG hom
    exact wk trueW trueW trueW
  · obtain rfl : i = ops.length := by omega
    rw [List.take_length] at hS
    simp only [hS]
    refine LC.frzbuf 4 0 50 rfl rfl rfl (by decide) (by rw [List.length_map]; omega) (es' := l.map bK) (by rw [List.drop_zero]; exact List.take_of_length_le (by rw [List.length_map]; exact Nat.le_refl _)) ?_
    exact wk trueW trueW trueW
end Mw
end Lf
end Go.Proofs.Ytgioofknlbdfjaa

/- Package memory: what is alive; MemoryConvex, MemoryOnce. -/
namespace Go.Proofs.Ytgioofknlbdfjaa
open Go.RowKit Rg Wm Ar
set_option maxRecDepth 100000
namespace My
def opN (k : Int) (a w : Nat) : MOp := ⟨k, a, 0, 0, w, []⟩
def paid (l : List Ans) : Nat := (l.map (·.cost)).sum
theorem price_add {L m : Nat} (h : L ≤ m) (hm : m ≤ 4096) : price L m + cost (L / 32) = cost (m / 32) := by
  unfold price
  have := cost_mono (a := L / 32) (b := m / 32) (by omega) (by omega)
  split
  · have : L = m := by omega
    subst this; omega
  · omega
theorem run1_paid {s : St} (h : Good s.l) (o : MOp) : (run1 s o).1.cost + cost (s.l.length / 32) = cost ((run1 s o).2.l.length / 32) := by
  unfold run1
  split
  · cases hs : sizeOf s.l.length o with
    | none => simp
    | some m =>
      obtain ⟨h1, h2, h3⟩ := sizeOf_spec h.le h.m hs
      have hg := grow_len h1
      have ha := act_len (o := o) (l := (grow s m).l) (by rw [hg]; exact hs) h.le h.m
      simp only
      rw [ha, hg]
      exact price_add h1 h2
  · simp
theorem run1_cost (s : St) (h : Good s.l) (o : MOp) : (run1 s o).1.cost ≤ 640 := by
  have := run1_paid h o
  have := cost_lt ((run1 s o).2.l.length / 32)
  omega
theorem play_paid {s : St} (h : Good s.l) (os : List MOp) : paid (play s os).1 + cost (s.l.length / 32) = cost ((play s os).2.l.length / 32) := by
  induction os generalizing s with
  | nil => simp [play, paid]
  | cons o r ih =>
    have h1 := run1_paid h o
    have h2 := ih (run1_good h o)
    simp only [play, paid, List.map_cons, List.sum_cons] at h2 ⊢
    omega
theorem paid_zero (os : List MOp) : paid (play zero os).1 = cost ((play zero os).2.l.length / 32) := by
  have := play_paid zero_good os
  have h0 : cost (zero.l.length / 32) = 0 := by decide
  omega
theorem paid_take {l : List Ans} {i : Nat} {a : Ans} (h : l[i]? = some a) : paid (l.take (i + 1)) = paid (l.take i) + a.cost := by
  rw [List.take_add_one, h]
  simp [paid]
theorem paid_le : ∀ {l m : List Ans}, paid l ≤ paid (l ++ m)
  | l, m => by simp [paid]
theorem paid_take_le (l : List Ans) (i : Nat) : paid (l.take i) ≤ paid l := by
  have := paid_le (l := l.take i) (m := l.drop i)
  rwa [List.take_append_drop] at this
theorem convex0 : ∀ n, n < 128 → 1 ≤ n → cost (n - 1) + 3 ≤ cost n ∧ cost n + (cost n - cost (n - 1)) ≤ cost (n + 1) + 1 ∧ cost (n - 1) ≤ cost n := by decide
end My
namespace Lf
/-- The cells of an operation's literal. -/
abbrev opZ : List V := [Z.int .i64, .int .u64, .int .u64, .int .u64, .int .u64, .int .u64, .int .u64, .int .u64, .int .u64, .int .u64, .int .u64, .int .u64, .int .u64, .int .u64, .int .u64, .int .u64, .int .u64, .sl].map Z.v
abbrev opP : List (Nat × Nat) := [(0, 1), (1, 4), (5, 4), (9, 4), (13, 4), (17, 1)]
theorem op_b0 (k : Int) (a w : Nat) : ∃ cs, vfill (fun i => opP[i]?) opZ [(0, .k (.int .i64 k)), (1, wV a), (4, wV w)] = some cs ∧ V.cv.go (fun _ => false) true cs = opC (My.opN k a w) := by
  obtain ⟨a0, a1, a2, a3, ha⟩ := four (limbs_len a)
  obtain ⟨w0, w1, w2, w3, hw⟩ := four (limbs_len w)
  have h0 : limbs 0 = [0, 0, 0, 0] := by unfold limbs; decide
  simp only [opC, My.opN, wV, ha, hw, h0]
  exact ⟨_, rfl, rfl⟩
theorem op_b1 (k : Int) (a : Nat) : ∃ cs, vfill (fun i => opP[i]?) opZ [(0, .k (.int .i64 k)), (1, wV a)] = some cs ∧ V.cv.go (fun _ => false) true cs = opC (My.opN k a 0) := by
  obtain ⟨a0, a1, a2, a3, ha⟩ := four (limbs_len a)
  have h0 : limbs 0 = [0, 0, 0, 0] := by unfold limbs; decide
  simp only [opC, My.opN, wV, ha, h0]
  exact ⟨_, rfl, rfl⟩
theorem op_b2 (a f n : Nat) : ∃ cs, vfill (fun i => opP[i]?) opZ [(0, .k (.int .i64 4)), (1, wV a), (2, wV f), (3, wV n)] = some cs ∧ V.cv.go (fun _ => false) true cs = opC ⟨4, a, f, n, 0, []⟩ := by
  obtain ⟨a0, a1, a2, a3, ha⟩ := four (limbs_len a)
  obtain ⟨f0, f1, f2, f3, hf⟩ := four (limbs_len f)
  obtain ⟨n0, n1, n2, n3, hn⟩ := four (limbs_len n)
  have h0 : limbs 0 = [0, 0, 0, 0] := by unfold limbs; decide
  simp only [opC, wV, ha, hf, hn, h0]
  exact ⟨_, rfl, rfl⟩
theorem op_b3 (o : Option Nat) (a : Nat) (d : List UInt8) : ∃ cs, vfill (fun i => opP[i]?) opZ [(0, .k (.int .i64 5)), (1, wV a), (5, .s o (d.map bK))] = some cs ∧ V.cv.go (fun _ => false) true cs = opC ⟨5, a, 0, 0, 0, d⟩ := by
  obtain ⟨a0, a1, a2, a3, ha⟩ := four (limbs_len a)
  have h0 : limbs 0 = [0, 0, 0, 0] := by unfold limbs; decide
  simp only [opC, wV, ha, h0]
  cases o with
  | none => exact ⟨_, rfl, rfl⟩
  | some r => exact ⟨_, rfl, rfl⟩
abbrev ansK : List IntKind := [.i64, .u64, .u64, .u64, .u64, .u64]
theorem ansC_kinds (a : My.Ans) : KindsOf (ansC a) ansK := by
  obtain ⟨w0, w1, w2, w3, hw⟩ := four (limbs_len a.word)
  simp only [ansC, hw]
  exact .cons (.cons (.cons (.cons (.cons (.cons .nil)))))
structure AnsC (a : My.Ans) : Prop where
  p0 : ∀ ti : TI, ti.d.agg = false → ti.part (ansC a) 0 = some (.k (.int .i64 a.err))
  p5 : ∀ ti : TI, ti.d.agg = false → ti.part (ansC a) 5 = some (uK a.cost)
  w1 : ∀ ti : TI, ti.d.agg = true → ti.size = 4 → ti.part (ansC a) 1 = some (wV a.word)
  q0 : ∀ ti : TI, ti.d.agg = false → ti.part ((ansC a).drop 0) 0 = some (.k (.int .i64 a.err))
  q1 : ∀ ti : TI, ti.d.agg = true → ti.size = 4 → ti.part ((ansC a).drop 1) 0 = some (wV a.word)
theorem ansC_ok (a : My.Ans) : AnsC a := by
  obtain ⟨e, w, c⟩ := a
  obtain ⟨w0, w1, w2, w3, hw⟩ := four (limbs_len w)
  constructor <;> simp only [ansC, wV, hw] <;> intro ti hd <;> simp only [TI.part, hd]
  · rfl
  · rfl
  · intro hs; simp only [hs]; rfl
  · rfl
  · intro hs; simp only [hs]; rfl
theorem ok_opN {k : Int} {a w : Nat} (ha : a < M256) (hw : w < M256) : (My.opN k a w).ok := ⟨ha, by show 0 < M256; unfold M256 m64; decide, by show 0 < M256; unfold M256 m64; decide, hw⟩
def aliveL : List UInt8 := List.replicate 34 0 ++ [7] ++ List.replicate 29 0
theorem alive_play : My.play My.zero [My.opN 2 3 7, My.opN 1 3 0] = ([⟨0, 0, 6⟩, ⟨0, 7, 0⟩], ⟨1, aliveL⟩) := by kernel_rfl
theorem aliveL_len : aliveL.length = 64 := by decide
theorem aliveL_at : aliveL.getD 34 default = 7 := by decide
namespace Mw
set_option maxHeartbeats 2000000 in
theorem alive11 : LF Try.prog 8 [] (fun _ => .k (.bool true)) none := by
  have h3 : (3 : Nat) < M256 := by unfold M256 m64; decide
  have h7 : (7 : Nat) < M256 := by unfold M256 m64; decide
  have c1 := Wo.IntW 3 (by unfold m64; decide)
  have c2 := Wo.IntW 7 (by unfold m64; decide)
  have c3 := Play [My.opN 2 3 7, My.opN 1 3 0] (by decide) (fun o ho => by
    simp only [List.mem_cons, List.not_mem_nil, or_false] at ho
    rcases ho with rfl | rfl
    · exact ⟨ok_opN h3 h7, by decide⟩
    · exact ⟨ok_opN h3 (by unfold M256 m64; decide), by decide⟩)
  rw [alive_play] at c3
  simp only [List.map_cons, List.map_nil] at c3
  obtain ⟨x1, b1, b2⟩ := op_b0 2 3 7
  obtain ⟨x2, b3, b4⟩ := op_b1 1 3
  have kd1 := ansC_kinds
  have hbr := opV_bare
  have hs1 := opV_len (My.opN 2 3 7)
  have hs2 := opV_len (My.opN 1 3 0)
  have hE : ansC ⟨0, 0, 6⟩ = [.k (.int .i64 0), .k (.int .u64 0), .k (.int .u64 0), .k (.int .u64 0), .k (.int .u64 0), .k (.int .u64 6)] := by
    have h0 : limbs 0 = [0, 0, 0, 0] := by unfold limbs; decide
    simp only [ansC, h0]; rfl
  obtain ⟨ld1, ld2, ld3, ld4, ld5⟩ := ansC_ok ⟨0, 0, 6⟩
  obtain ⟨_, _, ld6, _, ld7⟩ := ansC_ok ⟨0, 7, 0⟩
  have hal := aliveL_len
  have hat := aliveL_at
  have hat2 : ((aliveL.getD 34 default).toNat : Int) = 7 := by rw [hat]; rfl
  have hl7 := limbs_len 7
  have ha1 := ansC_len ⟨0, 0, 6⟩
  have ha2 := ansC_len ⟨0, 7, 0⟩
  generalize aliveL = L at *
  refine LFx.mk' tt Try.func8 rfl rfl rfl (by kernel_rfl) rfl rfl fun F => ?_
  exact wk trueW trueW trueW
end Mw
end Lf
end Go.Proofs.Ytgioofknlbdfjaa

/- Package memory: the plain law of MemoryRead. -/
namespace Go.Proofs.Ytgioofknlbdfjaa
open Go.RowKit Rg Wm Ar
set_option maxRecDepth 100000
namespace My
theorem view_ext {l m : List UInt8} {a n : Nat} (h : ∀ j, a ≤ j → j < a + n → l[j]? = m[j]?) : view l a n = view m a n := by
  apply List.ext_getElem?
  intro j
  simp only [view, List.getElem?_take, List.getElem?_drop]
  split
  · exact h _ (by omega) (by omega)
  · rfl
theorem put_get {l m : List UInt8} {off j : Nat} (h : off + m.length ≤ l.length) : (Lf.put l off m)[j]? = if off ≤ j ∧ j < off + m.length then m[j - off]? else l[j]? := by
  simp only [Lf.put, List.getElem?_append, List.length_append, List.length_take, List.getElem?_take, List.getElem?_drop]
  have e : min off l.length = off := by omega
  rw [e]
  by_cases h1 : j < off
  · rw [if_pos (by omega), if_pos h1, if_pos h1, if_neg (by omega)]
  · by_cases h2 : j < off + m.length
    · rw [if_pos h2, if_neg h1, if_pos (by omega)]
    · rw [if_neg h2, if_neg (by omega)]; congr 1; omega
theorem view_put {l m : List UInt8} {off : Nat} (h : off + m.length ≤ l.length) : view (Lf.put l off m) off m.length = m := by
  apply List.ext_getElem?
  intro j
  simp only [view, List.getElem?_take, List.getElem?_drop, put_get h]
  split
  · rw [if_pos (by omega)]; congr 1; omega
  · rw [List.getElem?_eq_none (by omega)]
theorem view_put_apart {l m : List UInt8} {off a n : Nat} (h : off + m.length ≤ l.length) (hd : a + n ≤ off ∨ off + m.length ≤ a) : view (Lf.put l off m) a n = view l a n :=
  view_ext fun j h1 h2 => by rw [put_get h, if_neg (by omega)]
theorem grow_get {s : St} {m j : Nat} (h : j < s.l.length) : (grow s m).l[j]? = s.l[j]? := by
  unfold grow
  split
  · rfl
  · simp only; rw [List.getElem?_append_left h]
theorem view_grow {s : St} {m a n : Nat} (h : a + n ≤ s.l.length) : view (grow s m).l a n = view s.l a n := view_ext fun j _ h2 => grow_get (by omega)
theorem up_fit {n L : Nat} (h : n ≤ L) (hL : L % 32 = 0) : up n ≤ L := by unfold up; omega
theorem need_again {L a : Nat} (h4 : L ≤ 4096) (hm : L % 32 = 0) (h : a + 32 ≤ L) : need L a 32 = some L := by
  unfold need
  rw [if_neg (by decide), if_neg (by omega), Nat.max_eq_left (up_fit h hm)]
theorem need_bad {L a : Nat} (h : 4064 < a) : need L a 32 = none := by
  unfold need
  rw [if_neg (by decide), if_pos (by omega)]
theorem need_ok {L a : Nat} (h : a ≤ 4064) : need L a 32 = some (max L (up (a + 32))) := by
  unfold need
  rw [if_neg (by decide), if_neg (by omega)]
theorem grow_same (s : St) : grow s s.l.length = s := by unfold grow; rw [if_pos (Nat.le_refl _)]
theorem price_same (L : Nat) : price L L = 0 := by unfold price; rw [if_pos (Nat.le_refl _)]
theorem load_bad {s : St} {a w : Nat} (h : 4064 < a) : run1 s (opN 1 a w) = (⟨6, 0, 0⟩, s) := by
  have hs : sizeOf s.l.length (opN 1 a w) = none := need_bad h
  unfold run1
  rw [if_pos (by rfl), hs]
theorem load_ok {s : St} {a w : Nat} (h : a ≤ 4064) : ∃ m, max s.l.length (up (a + 32)) = m ∧ run1 s (opN 1 a w) = (⟨0, Ps.beN (view (grow s m).l a 32), price s.l.length m⟩, grow s m) := by
  have hs : sizeOf s.l.length (opN 1 a w) = some (max s.l.length (up (a + 32))) := need_ok h
  refine ⟨_, rfl, ?_⟩
  unfold run1
  rw [if_pos (by rfl), hs]
  rfl
theorem load_again {s : St} {a w : Nat} (hg : Good s.l) (h : a + 32 ≤ s.l.length) : run1 s (opN 1 a w) = (⟨0, Ps.beN (view s.l a 32), 0⟩, s) := by
  have h4 := hg.le
  obtain ⟨m, hm, e⟩ := load_ok (s := s) (a := a) (w := w) (by omega)
  have : m = s.l.length := by rw [← hm, Nat.max_eq_left (up_fit h hg.m)]
  subst this
  rw [grow_same, price_same] at e
  exact e
theorem store_bad {s : St} {a w : Nat} (h : 4064 < a) : run1 s (opN 2 a w) = (⟨6, 0, 0⟩, s) := by
  have hs : sizeOf s.l.length (opN 2 a w) = none := need_bad h
  unfold run1
  rw [if_pos (by rfl), hs]
theorem store_ok {s : St} {a w : Nat} (h : a ≤ 4064) : ∃ m p, max s.l.length (up (a + 32)) = m ∧ run1 s (opN 2 a w) = (⟨0, 0, p⟩, ⟨(grow s m).gen, Lf.put (grow s m).l a (Lf.wordB w)⟩) := by
  have hs : sizeOf s.l.length (opN 2 a w) = some (max s.l.length (up (a + 32))) := need_ok h
  refine ⟨_, price s.l.length (max s.l.length (up (a + 32))), rfl, ?_⟩
  unfold run1
  rw [if_pos (by rfl), hs]
  rfl
theorem four_play (s : St) (a b c d : MOp) : (play s [a, b, c, d]).1 = [(run1 s a).1, (run1 (run1 s a).2 b).1, (run1 (run1 (run1 s a).2 b).2 c).1, (run1 (run1 (run1 (run1 s a).2 b).2 c).2 d).1] := rfl
theorem read_law {s : St} (h : Good s.l) {a w f : Nat} (hw : w < M256) : ∃ a0 a1 a2 a3, (play s [opN 1 f 0, opN 2 a w, opN 1 a 0, opN 1 f 0]).1 = [a0, a1, a2, a3] ∧
    ((a1.err = 6 ∧ a3.word = a0.word) ∨ (a1.err = 0 ∧ a2 = ⟨0, w, 0⟩ ∧ (a + 32 ≤ f ∨ f + 32 ≤ a → a3.word = a0.word))) := by
  rw [four_play]
  refine ⟨_, _, _, _, rfl, ?_⟩
  by_cases ha : a ≤ 4064
  · right
    by_cases hf : f ≤ 4064
    · obtain ⟨m, hm, e1⟩ := load_ok (s := s) (a := f) (w := 0) hf
      have hg1 := run1_good h (opN 1 f 0)
      rw [e1] at hg1 ⊢
      simp only at hg1 ⊢
      have hl1 : (grow s m).l.length = m := grow_len (by rw [← hm]; exact Nat.le_max_left _ _)
      have hfm : f + 32 ≤ m := by have := up_ge (f + 32); have := Nat.le_max_right s.l.length (up (f + 32)); omega
      generalize grow s m = s1 at *
      obtain ⟨m2, p, hm2, e2⟩ := store_ok (s := s1) (a := a) (w := w) ha
      have hg2 := run1_good hg1 (opN 2 a w)
      rw [e2] at hg2 ⊢
      simp only at hg2 ⊢
      have hl2 : (grow s1 m2).l.length = m2 := grow_len (by rw [← hm2]; exact Nat.le_max_left _ _)
      have ham : a + 32 ≤ m2 := by have := up_ge (a + 32); have := Nat.le_max_right s1.l.length (up (a + 32)); omega
      have h12 : m ≤ m2 := by rw [← hm2, ← hl1]; exact Nat.le_max_left _ _
      have hW := Lf.wordB_len w
      have hput : a + (Lf.wordB w).length ≤ (grow s1 m2).l.length := by omega
      have hpl : (Lf.put (grow s1 m2).l a (Lf.wordB w)).length = m2 := by rw [Lf.put_len hput, hl2]
      have e3 := load_again (s := ⟨(grow s1 m2).gen, Lf.put (grow s1 m2).l a (Lf.wordB w)⟩) (a := a) (w := 0) hg2 (by simp only; omega)
      rw [e3]
      simp only
      have e4 := load_again (s := ⟨(grow s1 m2).gen, Lf.put (grow s1 m2).l a (Lf.wordB w)⟩) (a := f) (w := 0) hg2 (by simp only; omega)
      rw [e4]
      simp only
      refine ⟨trivial, ?_, fun hap => ?_⟩
      · have := view_put hput
        rw [hW] at this
        rw [this, Lf.wordB_num, Nat.mod_eq_of_lt hw]
      · rw [view_put_apart hput (by omega), view_grow (by omega)]
    · have e1 := load_bad (s := s) (a := f) (w := 0) (by omega)
      rw [e1]
      simp only
      obtain ⟨m2, p, hm2, e2⟩ := store_ok (s := s) (a := a) (w := w) ha
      have hg2 := run1_good h (opN 2 a w)
      rw [e2] at hg2 ⊢
      simp only at hg2 ⊢
      have hl2 : (grow s m2).l.length = m2 := grow_len (by rw [← hm2]; exact Nat.le_max_left _ _)
      have ham : a + 32 ≤ m2 := by have := up_ge (a + 32); have := Nat.le_max_right s.l.length (up (a + 32)); omega
      have hW := Lf.wordB_len w
      have hput : a + (Lf.wordB w).length ≤ (grow s m2).l.length := by omega
      have hpl : (Lf.put (grow s m2).l a (Lf.wordB w)).length = m2 := by rw [Lf.put_len hput, hl2]
      have e3 := load_again (s := ⟨(grow s m2).gen, Lf.put (grow s m2).l a (Lf.wordB w)⟩) (a := a) (w := 0) hg2 (by simp only; omega)
      rw [e3]
      simp only
      rw [load_bad (by omega)]
      refine ⟨trivial, ?_, fun _ => rfl⟩
      have := view_put hput
      rw [hW] at this
      rw [this, Lf.wordB_num, Nat.mod_eq_of_lt hw]
  · left
    by_cases hf : f ≤ 4064
    · obtain ⟨m, hm, e1⟩ := load_ok (s := s) (a := f) (w := 0) hf
      have hg1 := run1_good h (opN 1 f 0)
      rw [e1] at hg1 ⊢
      simp only at hg1 ⊢
      have hl1 : (grow s m).l.length = m := grow_len (by rw [← hm]; exact Nat.le_max_left _ _)
      have hfm : f + 32 ≤ m := by have := up_ge (f + 32); have := Nat.le_max_right s.l.length (up (f + 32)); omega
      rw [store_bad (by omega)]
      simp only
      rw [load_bad (s := grow s m) (a := a) (by omega)]
      simp only
      rw [load_again hg1 (by omega)]
      exact ⟨trivial, rfl⟩
    · rw [load_bad (s := s) (a := f) (by omega)]
      simp only
      rw [store_bad (by omega)]
      simp only
      rw [load_bad (s := s) (a := a) (by omega)]
      simp only
      rw [load_bad (s := s) (a := f) (by omega)]
      exact ⟨trivial, rfl⟩
end My
end Go.Proofs.Ytgioofknlbdfjaa

/- What the given statement tells of an argument: a lifted value by a datum of one's own, and a bound of its bulk. -/
namespace Go.Proofs.Ytgioofknlbdfjaa
open Go.RowKit Rg Rp Go.WideShapes Go.ChangeShapes
namespace Lf
/-- Cells and what they read. -/
def RO (W : World) : List V → List Value → Prop
  | [], [] => True
  | u :: us, c :: cs => (u.one = true ∧ Rep W allS u c) ∧ RO W us cs
  | _, _ => False
theorem RO.append {W : World} : ∀ {us : List V} {cs : List Value} {vs : List V} {ds : List Value}, RO W us cs → RO W vs ds → RO W (us ++ vs) (cs ++ ds)
  | [], [], _, _, _, h => h
  | u :: us, c :: cs, _, _, h, k => ⟨h.1, RO.append h.2 k⟩
  | [], _ :: _, _, _, h, _ => h.elim
  | _ :: _, [], _, _, h, _ => h.elim
theorem RO.spec {W : World} : ∀ {us : List V} {cs : List Value}, RO W us cs → us.length = cs.length ∧ ∀ (j : Nat) u c, us[j]? = some u → cs[j]? = some c → u.one = true ∧ Rep W allS u c
  | [], [], _ => ⟨rfl, fun j u c h => by simp at h⟩
  | u :: us, c :: cs, h => by
    obtain ⟨h1, h2⟩ := RO.spec h.2
    refine ⟨by simp [h1], fun j a b ha hb => ?_⟩
    cases j with
    | zero => simp at ha hb; subst ha; subst hb; exact h.1
    | succ j => simp at ha hb; exact h2 j a b ha hb
  | [], _ :: _, h => h.elim
  | _ :: _, [], h => h.elim
theorem RO.flatten {W : World} : ∀ {uss : List (List V)} {css : List (List Value)}, uss.length = css.length → (∀ (j : Nat) us cs, uss[j]? = some us → css[j]? = some cs → RO W us cs) → RO W uss.flatten css.flatten
  | [], [], _, _ => trivial
  | us :: uss, cs :: css, hl, h => by
    rw [List.flatten_cons, List.flatten_cons]
    exact (h 0 us cs rfl rfl).append (RO.flatten (by simpa using hl) fun j a b ha hb => h (j + 1) a b (by simpa using ha) (by simpa using hb))
  | [], _ :: _, hl, _ => by simp at hl
  | _ :: _, [], hl, _ => by simp at hl
theorem mapM_some {α β : Type} {f : α → Option β} : ∀ {l : List α} {r : List β}, l.mapM f = some r → r.length = l.length ∧ ∀ (j : Nat) a, l[j]? = some a → ∃ b, r[j]? = some b ∧ f a = some b
  | [], r, h => by simp at h; subst h; simp
  | a :: l, r, h => by
    simp only [List.mapM_cons, Option.bind_eq_bind, Option.pure_def] at h
    obtain ⟨b, hb, h⟩ := Option.bind_eq_some_iff.1 h
    obtain ⟨bs, hbs, h⟩ := Option.bind_eq_some_iff.1 h
    cases h
    obtain ⟨h1, h2⟩ := mapM_some hbs
    refine ⟨by simp [h1], fun j x hj => ?_⟩
    cases j with
    | zero => simp at hj; subst hj; exact ⟨b, rfl, hb⟩
    | succ j => simp at hj; exact h2 j x hj
theorem list_choose {α : Type} {p : Nat → α → Prop} : ∀ (n : Nat), (∀ j, j < n → ∃ x, p j x) → ∃ xs : List α, xs.length = n ∧ ∀ j x, xs[j]? = some x → p j x
  | 0, _ => ⟨[], rfl, by simp⟩
  | n + 1, h => by
    obtain ⟨xs, hl, hx⟩ := list_choose n fun j hj => h j (by omega)
    obtain ⟨x, hp⟩ := h n (by omega)
    refine ⟨xs ++ [x], by simp [hl], fun j y hj => ?_⟩
    rcases Nat.lt_or_ge j xs.length with hlt | hge
    · rw [List.getElem?_append_left hlt] at hj; exact hx j y hj
    · rw [List.getElem?_append_right hge] at hj
      have : j - xs.length = 0 := by
        rcases Nat.eq_zero_or_pos (j - xs.length) with h0 | h0
        · exact h0
        · rw [List.getElem?_eq_none (by simp; omega)] at hj; cases hj
      rw [this] at hj
      simp at hj; subst hj
      obtain rfl : j = n := by omega
      exact hp
theorem range_flatten {s : Nat} : ∀ {n : Nat} {cs : List Value}, cs.length = n * s → ((List.range n).map fun i => (cs.drop (i * s)).take s).flatten = cs
  | 0, cs, h => by simp at h; subst h; rfl
  | n + 1, cs, h => by
    rw [List.range_succ_eq_map, List.map_cons, List.flatten_cons, List.map_map, Nat.zero_mul, List.drop_zero]
    have e := range_flatten (s := s) (n := n) (cs := cs.drop s) (by rw [List.length_drop, h, Nat.succ_mul]; omega)
    have e2 : ((List.range n).map ((fun i => (cs.drop (i * s)).take s) ∘ Nat.succ)) = (List.range n).map fun i => ((cs.drop s).drop (i * s)).take s := by
      refine List.map_congr_left fun i _ => ?_
      simp only [Function.comp, List.drop_drop, Nat.succ_mul]
      rw [Nat.add_comm]
    rw [e2, e]
    exact List.take_append_drop _ _
theorem flat_inv {α : Type} {f : α → List V} {k : Nat} (hk : 0 < k) : ∀ {l : List α} {J : Nat} {u : V}, (∀ a ∈ l, (f a).length = k) → (l.flatMap f)[J]? = some u → ∃ a, l[J / k]? = some a ∧ (f a)[J % k]? = some u
  | [], J, u, _, h => by simp at h
  | a :: l, J, u, hf, h => by
    rw [List.flatMap_cons] at h
    have ha := hf a (by simp)
    rcases Nat.lt_or_ge J k with hlt | hge
    · rw [List.getElem?_append_left (by omega)] at h
      exact ⟨a, by rw [Nat.div_eq_of_lt hlt]; rfl, by rw [Nat.mod_eq_of_lt hlt]; exact h⟩
    · rw [List.getElem?_append_right (by omega), ha] at h
      obtain ⟨b, h1, h2⟩ := flat_inv hk (fun a ha => hf a (by simp [ha])) h
      obtain ⟨J', rfl⟩ : ∃ J', J = J' + k := ⟨J - k, by omega⟩
      rw [Nat.add_sub_cancel] at h1 h2
      exact ⟨b, by rw [Nat.add_div_right _ hk]; exact h1, by rw [Nat.add_mod_right]; exact h2⟩
theorem sum_le {α β : Type} {f : α → Nat} {g : β → Nat} : ∀ {l : List α} {m : List β}, l.length = m.length → (∀ (j : Nat) a b, l[j]? = some a → m[j]? = some b → f a ≤ g b) → (l.map f).sum ≤ (m.map g).sum
  | [], [], _, _ => Nat.le_refl _
  | a :: l, b :: m, hl, h => by
    simp only [List.map_cons, List.sum_cons]
    exact Nat.add_le_add (h 0 a b rfl rfl) (sum_le (by simpa using hl) fun j x y hx hy => h (j + 1) x y (by simpa using hx) (by simpa using hy))
  | [], _ :: _, hl, _ => by simp at hl
  | _ :: _, [], hl, _ => by simp at hl
section
variable {H : Type} {enc : TypeId × Value → H} {P : Program} {W : World}
theorem sum_bulk (xs : List (DataW H × List MemPlace)) : (xs.map fun x => Rows.uptoBulk x.1).sum = Rows.uptoBulkAll (xs.map (·.1)) := by
  induction xs with
  | nil => simp [Rows.uptoBulkAll]
  | cons x r ih => simp [Rows.uptoBulkAll, ih]
/-- Cells of a type, as the given reader takes them: lifted by a datum of one's own. -/
structure Opn (enc : TypeId × Value → H) (P : Program) (W : World) (n T : Nat) {α : Type} (f : α → List V) (ok : α → Prop) (sz : α → Nat) : Prop where
  go : ∀ cs x, DataW.trod enc P W 0 (fun _ => true) true n T cs = some x → ∃ a, RO W (f a) cs ∧ ok a ∧ sz a ≤ Rows.uptoBulk x.1
theorem Opn.zero {T : Nat} {α : Type} {f : α → List V} {ok : α → Prop} {sz : α → Nat} : Opn enc P W 0 T f ok sz := ⟨fun cs x h => by simp [DataW.trod] at h⟩
theorem Opn.map {n T : Nat} {α β : Type} {f : α → List V} {ok : α → Prop} {sz : α → Nat} {f' : β → List V} {ok' : β → Prop} {sz' : β → Nat} (g : α → β) (h : Opn enc P W n T f ok sz) (hf : ∀ a, ok a → f' (g a) = f a) (hok : ∀ a, ok a → ok' (g a)) (hs : ∀ a, ok a → sz' (g a) ≤ sz a) : Opn enc P W n T f' ok' sz' :=
  ⟨fun cs x hx => by
    obtain ⟨a, h1, h2, h3⟩ := h.go cs x hx
    exact ⟨g a, by rw [hf a h2]; exact h1, hok a h2, Nat.le_trans (hs a h2) h3⟩⟩
theorem Opn.bool {n T : Nat} (hT : P.underlying T = some .bool) : Opn enc P W n T (fun b : Bool => [.k (.bool b)]) (fun _ => True) (fun _ => 1) := ⟨fun cs x h => by
  cases n with
  | zero => simp [DataW.trod] at h
  | succ n =>
    unfold DataW.trod at h
    rw [hT] at h
    split at h <;> rename_i hu <;> first | (cases hu; done) | skip
    all_goals first | (cases h; exact ⟨_, ⟨⟨rfl, .k _⟩, trivial⟩, trivial, by simp [Rows.uptoBulk]⟩) | cases h⟩
theorem Opn.int {n T : Nat} {k : IntKind} (hT : P.underlying T = some (.int k)) : Opn enc P W n T (fun z : Int => [.k (.int k z)]) (fun z => k.min ≤ z ∧ z ≤ k.max) (fun _ => 1) := ⟨fun cs x h => by
  cases n with
  | zero => simp [DataW.trod] at h
  | succ n =>
    unfold DataW.trod at h
    rw [hT] at h
    split at h <;> rename_i hu <;> first | (cases hu; done) | skip
    all_goals first | cases h | skip
    cases hu
    split at h
    · rename_i hw
      cases h
      obtain ⟨rfl, hw⟩ := hw
      exact ⟨_, ⟨⟨rfl, .k _⟩, trivial⟩, by simpa [Lit.wf] using hw, by simp [Rows.uptoBulk]⟩
    · cases h⟩
theorem Opn.str {n T : Nat} (hT : P.underlying T = some .string) : Opn enc P W n T (fun s : ByteArray => [.k (.string s)]) (fun s => s.size ≤ maxLen) (fun s => s.size + 1) := ⟨fun cs x h => by
  cases n with
  | zero => simp [DataW.trod] at h
  | succ n =>
    unfold DataW.trod at h
    rw [hT] at h
    split at h <;> rename_i hu <;> first | (cases hu; done) | skip
    all_goals first | cases h | skip
    split at h
    · rename_i hw
      cases h
      exact ⟨_, ⟨⟨rfl, .k _⟩, trivial⟩, hw, by simp [Rows.uptoBulk]⟩
    · cases h⟩
/-- A slice. -/
theorem Opn.sl {n T e k : Nat} {α : Type} {f : α → List V} {ok : α → Prop} {sz : α → Nat} (p : α → V) (hT : P.underlying T = some (.slice e)) (hc : P.cellsOf e = k) (hk : 0 < k) (hp : ∀ a, (p a).cells = f a) (h : Opn enc P W (n - 1) e f ok sz) :
    Opn enc P W n T (fun l : List α => [.s none (l.map p)]) (fun l => ∀ a ∈ l, ok a) (fun l => (l.map sz).sum + 1) := ⟨fun cs x hx => by
  cases n with
  | zero => simp [DataW.trod] at hx
  | succ n =>
    unfold DataW.trod at hx
    rw [hT] at hx
    split at hx <;> rename_i hu <;> first | (cases hu; done) | skip
    all_goals first | (cases hx; exact ⟨[], ⟨⟨rfl, .s0 (fun _ h => by cases h)⟩, trivial⟩, by simp, by simp [Rows.uptoBulk]⟩) | skip
    all_goals first | cases hx | skip
    cases hu
    rename_i a len cap
    simp only [hc] at hx
    split at hx
    · rename_i hb
      obtain ⟨_, hlc, hcm⟩ := hb
      obtain ⟨elems, he, hx⟩ := Option.bind_eq_some_iff.1 hx
      obtain ⟨rest, hr, hx⟩ := Option.map_eq_some_iff.1 hx
      subst hx
      obtain ⟨e1, e2⟩ := mapM_some he
      rw [List.length_range] at e1
      have key : ∀ j, j < len → ∃ y : α, (∃ b, elems[j]? = some b ∧ ok y ∧ sz y ≤ Rows.uptoBulk b.1) ∧ (f y).length = k ∧ ∀ i, i < k → ∃ u c, (f y)[i]? = some u ∧ W.cell? ((a.add (j * k)).add i) = some c ∧ u.one = true ∧ Rep W allS u c := fun j hj => by
        obtain ⟨b, h1, h2⟩ := e2 j j (by rw [List.getElem?_range hj])
        obtain ⟨ds, h3, h4⟩ := Option.bind_eq_some_iff.1 h2
        obtain ⟨y, k1, k2, k3⟩ := h.go ds b h4
        unfold World.cells? at h3
        split at h3
        · obtain ⟨m1, m2⟩ := mapM_some h3
          rw [List.length_range] at m1
          obtain ⟨l1, l2⟩ := k1.spec
          refine ⟨y, ⟨b, h1, k2, k3⟩, by omega, fun i hi => ?_⟩
          obtain ⟨c, c1, c2⟩ := m2 i i (by rw [List.getElem?_range hi])
          have hu : (f y)[i]? = some (f y)[i] := List.getElem?_eq_getElem (by omega)
          exact ⟨_, c, hu, c2, l2 i _ c hu c1⟩
        · cases h3
      obtain ⟨ys, hyl, hys⟩ := list_choose len key
      have hspot : 0 < cap → a.spot = none := fun h0 => by
        have : ∃ v : DataW H × List MemPlace, ((W.cells? 0 (a.add (0 * k)) k).bind (DataW.trod enc P W 0 (fun _ => true) true n e)) = some v := by
          rcases Nat.eq_zero_or_pos len with hl | hl
          · subst hl
            simp only [if_true] at hr
            obtain ⟨_, r2⟩ := mapM_some hr
            obtain ⟨v, _, hv⟩ := r2 0 0 (by rw [List.getElem?_range (by omega)])
            exact ⟨v, by simpa using hv⟩
          · obtain ⟨v, _, hv⟩ := e2 0 0 (by rw [List.getElem?_range hl])
            exact ⟨v, hv⟩
        obtain ⟨v, hv⟩ := this
        obtain ⟨ds, h3, _⟩ := Option.bind_eq_some_iff.1 hv
        unfold World.cells? at h3
        split at h3
        · obtain ⟨_, m2⟩ := mapM_some h3
          obtain ⟨c, _, c2⟩ := m2 0 0 (by rw [List.getElem?_range hk])
          obtain ⟨b, o, s⟩ := a
          cases s with
          | none => rfl
          | some s =>
            exfalso
            simp only [Addr.add, Nat.zero_mul] at c2
            simp [World.cell?] at c2
            split at c2 <;> simp at c2
        · cases h3
      refine ⟨ys, ⟨⟨rfl, ?_⟩, trivial⟩, fun y hy => ?_, ?_⟩
      · rcases Nat.eq_zero_or_pos cap with h0 | h0
        · obtain rfl : len = 0 := by omega
          subst h0
          have : ys = [] := List.eq_nil_of_length_eq_zero hyl
          subst this
          exact .se a (fun _ h => by cases h)
        · have hsp := hspot h0
          obtain ⟨b, o, s⟩ := a
          simp only at hsp
          subst hsp
          have hfl : ∀ y ∈ ys, (f y).length = k := fun y hy => by
            obtain ⟨j, hj⟩ := List.getElem?_of_mem hy
            exact (hys j y hj).2.1
          have hfe : (ys.map p).flatMap V.cells = ys.flatMap f := by
            rw [List.flatMap_map]
            congr 1
            funext y; exact hp y
          have hat : ∀ (J : Nat) u, (ys.flatMap f)[J]? = some u → ∃ c, W.cell? ⟨b, o + J, none⟩ = some c ∧ u.one = true ∧ Rep W allS u c := fun J u hu => by
            obtain ⟨y, h1, h2⟩ := flat_inv hk hfl hu
            obtain ⟨_, _, h3⟩ := hys _ y h1
            obtain ⟨u', c, k1, k2, k3⟩ := h3 (J % k) (Nat.mod_lt _ hk)
            rw [k1] at h2; cases h2
            rw [Addr.add_lit, Addr.add_lit, Nat.add_assoc, Nat.mul_comm, Nat.div_add_mod] at k2
            exact ⟨c, k2, k3⟩
          have hlen : (ys.map p).length = len := by simpa using hyl
          rw [← hlen]
          refine .s (size := k) (fun J => (W.cell? ⟨b, o + J, none⟩).getD undef) (by omega) hcm hk (fun v hv => ?_) (fun J u hu => ?_) (fun J u hu => ?_) (fun _ h => by cases h)
          · obtain ⟨y, hy, rfl⟩ := List.mem_map.1 hv
            rw [hp]
            refine ⟨hfl y hy, fun u hu => ?_⟩
            obtain ⟨J, hJ⟩ := List.getElem?_of_mem (List.mem_flatMap.2 ⟨y, hy, hu⟩)
            obtain ⟨_, _, h1, _⟩ := hat J u hJ
            exact h1
          · rw [hfe] at hu
            obtain ⟨c, h1, _⟩ := hat J u hu
            exact ⟨World.block_lt_of_cell? W ⟨b, o + J, none⟩ (by rw [h1]), trivial, by rw [h1]; rfl⟩
          · rw [hfe] at hu
            obtain ⟨c, h1, _, h2⟩ := hat J u hu
            rw [h1]
            exact h2
      · obtain ⟨j, hj⟩ := List.getElem?_of_mem hy
        obtain ⟨⟨b, _, h1, _⟩, _⟩ := hys j y hj
        exact h1
      · have := sum_le (f := sz) (g := fun x : DataW H × List MemPlace => Rows.uptoBulk x.1) (l := ys) (m := elems) (by omega) fun j y b hy hb => by
          obtain ⟨⟨b', hb', _, h1⟩, _⟩ := hys j y hy
          rw [hb] at hb'; cases hb'
          exact h1
        rw [sum_bulk] at this
        simp only [Rows.uptoBulk]
        omega
    · cases hx⟩
/-- A struct's fields, from a place on. -/
def tileB (P : Program) (total : Nat) : Nat → List Field → Bool
  | off, [] => Nat.beq off total
  | off, f :: r => Nat.beq f.offset off && tileB P total (off + P.cellsOf f.type) r
structure OpnFs (enc : TypeId × Value → H) (P : Program) (W : World) (n : Nat) (fs : List Field) {α : Type} (f : α → List V) (ok : α → Prop) (sz : α → Nat) : Prop where
  go : ∀ (total off : Nat) (cs : List Value) (xs : List (DataW H × List MemPlace)), tileB P total off fs = true → cs.length = total → (fs.mapM fun fl => DataW.trod enc P W 0 (fun _ => true) true n fl.type ((cs.drop fl.offset).take (P.cellsOf fl.type))) = some xs → ∃ a, RO W (f a) (cs.drop off) ∧ ok a ∧ sz a ≤ Rows.uptoBulkAll (xs.map (·.1))
theorem OpnFs.nil {n : Nat} : OpnFs enc P W n [] (fun _ : Unit => []) (fun _ => True) (fun _ => 0) := ⟨fun total off cs xs ht hl hx => by
  have : off = total := Nat.eq_of_beq_eq_true ht
  refine ⟨(), ?_, trivial, Nat.zero_le _⟩
  rw [List.drop_of_length_le (by omega)]
  trivial⟩
theorem OpnFs.cons {n : Nat} {fl : Field} {fs : List Field} {α β : Type} {f : α → List V} {ok : α → Prop} {sz : α → Nat} {f' : β → List V} {ok' : β → Prop} {sz' : β → Nat} (h : Opn enc P W n fl.type f ok sz) (k : OpnFs enc P W n fs f' ok' sz') :
    OpnFs enc P W n (fl :: fs) (fun x : α × β => f x.1 ++ f' x.2) (fun x => ok x.1 ∧ ok' x.2) (fun x => sz x.1 + sz' x.2) := ⟨fun total off cs xs ht hl hx => by
  simp only [tileB, Bool.and_eq_true] at ht
  have ho : fl.offset = off := Nat.eq_of_beq_eq_true ht.1
  simp only [List.mapM_cons, Option.bind_eq_bind, Option.pure_def] at hx
  obtain ⟨b, hb, hx⟩ := Option.bind_eq_some_iff.1 hx
  obtain ⟨bs, hbs, hx⟩ := Option.bind_eq_some_iff.1 hx
  cases hx
  obtain ⟨a, a1, a2, a3⟩ := h.go _ _ hb
  obtain ⟨c, c1, c2, c3⟩ := k.go _ _ _ _ ht.2 hl hbs
  refine ⟨(a, c), ?_, ⟨a2, c2⟩, by simp only [List.map_cons, Rows.uptoBulkAll]; omega⟩
  have := a1.append c1
  rw [ho, ← List.drop_drop, List.take_append_drop] at this
  exact this⟩
theorem Opn.st {n T : Nat} {fs : Array Field} {α : Type} {f : α → List V} {ok : α → Prop} {sz : α → Nat} (hT : P.underlying T = some (.struct fs)) (ht : tileB P (P.cellsOf T) 0 fs.toList = true) (h : OpnFs enc P W (n - 1) fs.toList f ok sz) :
    Opn enc P W n T f ok (fun a => sz a + 1) := ⟨fun cs x hx => by
  cases n with
  | zero => simp [DataW.trod] at hx
  | succ n =>
    have hx : (if cs.length = P.cellsOf T then (fs.toList.mapM fun fl => DataW.trod enc P W 0 (fun _ => true) true n fl.type ((cs.drop fl.offset).take (P.cellsOf fl.type))).map fun xs => (DataW.agg (xs.map (·.1)), xs.flatMap (·.2)) else none) = some x := by
      unfold DataW.trod at hx
      rw [hT] at hx
      exact hx
    split at hx
    · rename_i hl
      obtain ⟨xs, hxs, hx⟩ := Option.map_eq_some_iff.1 hx
      subst hx
      obtain ⟨a, h1, h2, h3⟩ := h.go _ _ _ _ ht hl hxs
      rw [List.drop_zero] at h1
      exact ⟨a, h1, h2, by simp only [Rows.uptoBulk]; omega⟩
    · cases hx⟩
/-- An array. -/
theorem Opn.ar {n T m e : Nat} {α : Type} {f : α → List V} {ok : α → Prop} {sz : α → Nat} (hT : P.underlying T = some (.array m e)) (hc : P.cellsOf T = m * P.cellsOf e) (h : Opn enc P W (n - 1) e f ok sz) :
    Opn enc P W n T (fun l : List α => l.flatMap f) (fun l => l.length = m ∧ ∀ a ∈ l, ok a) (fun l => (l.map sz).sum + 1) := ⟨fun cs x hx => by
  cases n with
  | zero => simp [DataW.trod] at hx
  | succ n =>
    have hx : (if cs.length = P.cellsOf T then ((List.range m).mapM fun i => DataW.trod enc P W 0 (fun _ => true) true n e ((cs.drop (i * P.cellsOf e)).take (P.cellsOf e))).map fun xs => (DataW.agg (xs.map (·.1)), xs.flatMap (·.2)) else none) = some x := by
      unfold DataW.trod at hx
      rw [hT] at hx
      exact hx
    split at hx
    · rename_i hl
      obtain ⟨xs, hxs, hx⟩ := Option.map_eq_some_iff.1 hx
      subst hx
      obtain ⟨e1, e2⟩ := mapM_some hxs
      rw [List.length_range] at e1
      obtain ⟨ys, hyl, hys⟩ := list_choose (p := fun j (y : α) => (∃ b, xs[j]? = some b ∧ ok y ∧ sz y ≤ Rows.uptoBulk b.1) ∧ RO W (f y) ((cs.drop (j * P.cellsOf e)).take (P.cellsOf e))) m fun j hj => by
        obtain ⟨b, h1, h2⟩ := e2 j j (by rw [List.getElem?_range hj])
        obtain ⟨y, k1, k2, k3⟩ := h.go _ b h2
        exact ⟨y, ⟨b, h1, k2, k3⟩, k1⟩
      refine ⟨ys, ?_, ⟨hyl, fun y hy => ?_⟩, ?_⟩
      · have hrf := range_flatten (s := P.cellsOf e) (n := m) (cs := cs) (by rw [hl, hc])
        rw [← hrf, List.flatMap]
        refine RO.flatten (by simp [hyl]) fun j us ds h1 h2 => ?_
        rw [List.getElem?_map] at h1 h2
        obtain ⟨y, hy, rfl⟩ := Option.map_eq_some_iff.1 h1
        obtain ⟨i, hi, rfl⟩ := Option.map_eq_some_iff.1 h2
        have hjl : j < m := by have := (List.getElem?_eq_some_iff.1 hy).1; omega
        rw [List.getElem?_range hjl] at hi
        cases hi
        exact (hys j y hy).2
      · obtain ⟨j, hj⟩ := List.getElem?_of_mem hy
        obtain ⟨⟨b, _, h1, _⟩, _⟩ := hys j y hj
        exact h1
      · have := sum_le (f := sz) (g := fun x : DataW H × List MemPlace => Rows.uptoBulk x.1) (l := ys) (m := xs) (by omega) fun j y b hy hb => by
          obtain ⟨⟨b', hb', _, h1⟩, _⟩ := hys j y hy
          rw [hb] at hb'; cases hb'
          exact h1
        rw [sum_bulk] at this
        simp only [Rows.uptoBulk]
        omega
    · cases hx⟩
/-! ### Arguments -/
/-- A struct or an array. -/
def aggT (P : Program) (t : Nat) : Bool :=
  match P.underlying t with
  | some (.struct _) | some (.array _ _) => true
  | _ => false
theorem Opn.argA {T base : Nat} {α : Type} {f : α → List V} {ok : α → Prop} {sz : α → Nat} {v : Value} {d : DataW H} {ps : List MemPlace} (h : ∀ n, Opn enc P W n T f ok sz) (ha : aggT P T = true) (hv : Value.okWide P W .any base T v) (ht : DataW.Trod enc P W 0 (fun _ => true) true T v d ps) :
    ∃ a, Rep W allS (.a (f a)) v ∧ ok a ∧ sz a ≤ Rows.uptoBulk d := by
  obtain ⟨n, hn⟩ := ht
  obtain ⟨a, h1, h2, h3⟩ := (h n).go _ _ hn
  obtain ⟨cs, rfl⟩ : ∃ cs, v = .agg cs := by
    unfold Value.okWide at hv
    unfold aggT at ha
    split at hv
    · obtain ⟨cs, rfl, _⟩ := hv; exact ⟨cs, rfl⟩
    · obtain ⟨cs, rfl, _⟩ := hv; exact ⟨cs, rfl⟩
    · rename_i k1 k2
      split at ha
      · rename_i fs hu; exact absurd hu (k1 fs)
      · rename_i m e hu; exact absurd hu (k2 m e)
      · cases ha
  obtain ⟨l1, l2⟩ := h1.spec
  refine ⟨a, .a (by simpa [Value.cells] using l1) (fun u hu => ?_) (fun j u x hj hx => ?_), h2, h3⟩
  · obtain ⟨j, hj⟩ := List.getElem?_of_mem hu
    have hjl := (List.getElem?_eq_some_iff.1 hj).1
    have hx : (Value.cells (.agg cs)).toList[j]? = some (Value.cells (.agg cs)).toList[j] := List.getElem?_eq_getElem (by omega)
    exact (l2 j u _ hj hx).1
  · exact (l2 j u x hj (by simpa [Value.cells] using hx)).2
theorem ro_one {u : V} {cs : List Value} (h : RO W [u] cs) : ∃ c, cs = [c] ∧ Rep W allS u c := by
  match cs, h with
  | [c], h => exact ⟨c, rfl, h.1.2⟩
theorem Opn.arg1 {T base : Nat} {α : Type} {p : α → V} {ok : α → Prop} {sz : α → Nat} {v : Value} {d : DataW H} {ps : List MemPlace} (h : ∀ n, Opn enc P W n T (fun a => [p a]) ok sz) (ha : (match P.underlying T with | some .bool | some (.int _) | some .string | some (.slice _) => true | _ => false) = true) (hv : Value.okWide P W .any base T v) (ht : DataW.Trod enc P W 0 (fun _ => true) true T v d ps) :
    ∃ a, Rep W allS (p a) v ∧ ok a ∧ sz a ≤ Rows.uptoBulk d := by
  obtain ⟨n, hn⟩ := ht
  obtain ⟨a, h1, h2, h3⟩ := (h n).go _ _ hn
  have hc : v.cells = #[v] := by
    split at ha
    · rename_i hu; obtain ⟨b, rfl⟩ := okWide_bool hu hv; rfl
    · rename_i k hu; obtain ⟨b, rfl⟩ := okWide_int hu hv; rfl
    · rename_i hu; obtain ⟨b, rfl⟩ := okWide_string hu hv; rfl
    · rename_i e hu; obtain ⟨x, y, z, rfl⟩ := okWide_slice hu hv; rfl
    · cases ha
  rw [hc] at h1
  obtain ⟨c, hc', hr⟩ := ro_one h1
  simp at hc'
  subst hc'
  exact ⟨a, hr, h2, h3⟩
/-! ### Plain types -/
theorem Opn.u8 {n T : Nat} (hT : P.underlying T = some (.int .u8)) : Opn enc P W n T (fun b : UInt8 => [bK b]) (fun _ => True) (fun _ => 1) :=
  (Opn.int hT).map (fun z => UInt8.ofNat z.toNat) (fun z hz => by
    have h0 : IntKind.u8.min = 0 := rfl
    have h1 : IntKind.u8.max = 255 := rfl
    have e : (UInt8.ofNat z.toNat).toNat = z.toNat := UInt8.toNat_ofNat_of_lt (by show _ < 256; omega)
    have : ((z.toNat : Nat) : Int) = z := by omega
    simp only [bK, e, this]) (fun _ _ => trivial) fun _ _ => Nat.le_refl _
theorem Opn.u64 {n T : Nat} (hT : P.underlying T = some (.int .u64)) : Opn enc P W n T (fun b : UInt64 => [qK b]) (fun _ => True) (fun _ => 1) :=
  (Opn.int hT).map (fun z => UInt64.ofNat z.toNat) (fun z hz => by
    have h0 : IntKind.u64.min = 0 := rfl
    have h1 : IntKind.u64.max = 18446744073709551615 := rfl
    have e : (UInt64.ofNat z.toNat).toNat = z.toNat := UInt64.toNat_ofNat_of_lt (by show _ < 18446744073709551616; omega)
    have : ((z.toNat : Nat) : Int) = z := by omega
    simp only [qK, e, this]) (fun _ _ => trivial) fun _ _ => Nat.le_refl _
theorem Opn.i64 {n T : Nat} (hT : P.underlying T = some (.int .i64)) : Opn enc P W n T (fun z : Int => [.k (.int .i64 z)]) (fun z => -9223372036854775808 ≤ z ∧ z ≤ 9223372036854775807) (fun _ => 1) :=
  (Opn.int hT).map id (fun _ _ => rfl) (fun _ hz => hz) fun _ _ => Nat.le_refl _
theorem sum_map_one {α : Type} (l : List α) : (l.map fun _ => 1).sum = l.length := by induction l with
  | nil => rfl
  | cons a l ih => simp [ih]; omega
theorem flatMap_one {α : Type} (g : α → V) (l : List α) : l.flatMap (fun a => [g a]) = l.map g := by
  induction l with
  | nil => rfl
  | cons a l ih => rw [List.flatMap_cons, List.map_cons, ih]; rfl
/-- Bytes. -/
theorem Opn.bytes {n T e : Nat} (hT : P.underlying T = some (.slice e)) (hE : P.underlying e = some (.int .u8)) (hc : P.cellsOf e = 1) : Opn enc P W n T (fun l : List UInt8 => [.s none (l.map bK)]) (fun _ => True) (fun l => l.length + 1) :=
  (Opn.sl bK hT hc (by decide) (fun _ => rfl) (Opn.u8 hE)).map id (fun _ _ => rfl) (fun _ _ => trivial) fun l _ => by rw [sum_map_one]; exact Nat.le_refl _
theorem Opn.u64s {n T e : Nat} (hT : P.underlying T = some (.slice e)) (hE : P.underlying e = some (.int .u64)) (hc : P.cellsOf e = 1) : Opn enc P W n T (fun l : List UInt64 => [.s none (l.map qK)]) (fun _ => True) (fun l => l.length + 1) :=
  (Opn.sl qK hT hc (by decide) (fun _ => rfl) (Opn.u64 hE)).map id (fun _ _ => rfl) (fun _ _ => trivial) fun l _ => by rw [sum_map_one]; exact Nat.le_refl _
/-- An array of bytes, or of numbers. -/
theorem Opn.arr8 {n T e m : Nat} (hT : P.underlying T = some (.array m e)) (hE : P.underlying e = some (.int .u8)) (hc : P.cellsOf T = m * P.cellsOf e) : Opn enc P W n T (fun l : List UInt8 => l.map bK) (fun l => l.length = m) (fun l => l.length + 1) :=
  (Opn.ar hT hc (Opn.u8 hE)).map id (fun l _ => (flatMap_one bK l).symm) (fun _ h => h.1) fun l _ => by rw [sum_map_one]; exact Nat.le_refl _
theorem Opn.arr64 {n T e m : Nat} (hT : P.underlying T = some (.array m e)) (hE : P.underlying e = some (.int .u64)) (hc : P.cellsOf T = m * P.cellsOf e) : Opn enc P W n T (fun l : List UInt64 => l.map qK) (fun l => l.length = m) (fun l => l.length + 1) :=
  (Opn.ar hT hc (Opn.u64 hE)).map id (fun l _ => (flatMap_one qK l).symm) (fun _ h => h.1) fun l _ => by rw [sum_map_one]; exact Nat.le_refl _
end
end Lf
end Go.Proofs.Ytgioofknlbdfjaa

/- What the given statement tells of a word, of a text. -/
namespace Go.Proofs.Ytgioofknlbdfjaa
open Go.RowKit Rg Rp Go.WideShapes Go.ChangeShapes Wm Ar
namespace Lf
section
variable {H : Type} {enc : TypeId × Value → H} {W : World}
theorem opnWord (n : Nat) : Opn enc Try.prog W n 31 (fun x : Nat => (limbs x).map uK) (fun x => x < M256) (fun _ => 5) :=
  (Opn.arr64 (m := 4) (e := 28) (by kernel_rfl) (by kernel_rfl) (by kernel_rfl)).map (fun l => numOf (l.map UInt64.toNat)) (fun l h => by
    rw [limbs_num ((List.length_map _).trans h) (fun a ha => by obtain ⟨y, _, rfl⟩ := List.mem_map.1 ha; exact y.toNat_lt), List.map_map]
    rfl) (fun l h => numOf_lt ((List.length_map _).trans h) (fun a ha => by obtain ⟨y, _, rfl⟩ := List.mem_map.1 ha; exact y.toNat_lt)) (fun l h => by omega)
theorem opnStr {P : Program} {T n : Nat} (hT : P.underlying T = some .string) : Opn enc P W n T (fun l : List UInt8 => [sK l]) (fun l => l.length ≤ maxLen) (fun l => l.length + 1) :=
  (Opn.str hT).map (fun s => s.data.toList) (fun s _ => by unfold sK; rw [Array.toArray_toList]) (fun s h => by rw [Array.length_toList]; exact h) (fun s _ => by rw [Array.length_toList]; exact Nat.le_refl _)
end
end Lf
end Go.Proofs.Ytgioofknlbdfjaa

/- What the given statement tells of what is done to a memory. -/
namespace Go.Proofs.Ytgioofknlbdfjaa
open Go.RowKit Rg Rp Go.WideShapes Go.ChangeShapes Wm Ar
namespace Lf
section
variable {H : Type} {enc : TypeId × Value → H} {W : World}
theorem opnU {T n : Nat} (hT : (Try.prog).underlying T = some (.int .u64)) : Opn enc Try.prog W n T (fun x : Nat => [uK x]) (fun x => x < 18446744073709551616) (fun _ => 1) :=
  (Opn.u64 hT).map (fun b => b.toNat) (fun _ _ => rfl) (fun b _ => b.toNat_lt) fun _ _ => Nat.le_refl _
theorem opnOp (n : Nat) : Opn enc Try.prog W n 38 opC My.MOp.ok (fun o => o.data.length + 1) := by
  have h := Opn.st (T := 38) (n := n) (P := Try.prog) (enc := enc) (W := W) (fs := #[⟨"Kind", 3, 0, false, "", "", 0⟩, ⟨"At", 31, 1, false, "", "", 8⟩, ⟨"From", 31, 5, false, "", "", 40⟩, ⟨"Len", 31, 9, false, "", "", 72⟩, ⟨"Word", 31, 13, false, "", "", 104⟩, ⟨"Data", 25, 17, false, "", "", 136⟩]) (by kernel_rfl) (by kernel_rfl)
    (OpnFs.cons (Opn.i64 (by kernel_rfl)) (OpnFs.cons (opnWord _) (OpnFs.cons (opnWord _) (OpnFs.cons (opnWord _) (OpnFs.cons (opnWord _) (OpnFs.cons (Opn.bytes (e := 5) (by kernel_rfl) (by kernel_rfl) (by kernel_rfl)) OpnFs.nil))))))
  refine h.map (fun x => ⟨x.1, x.2.1, x.2.2.1, x.2.2.2.1, x.2.2.2.2.1, x.2.2.2.2.2.1⟩) (fun x _ => ?_) (fun x hx => ?_) (fun x _ => ?_)
  · simp only [opC, List.append_nil, List.cons_append, List.nil_append]
  · exact ⟨hx.2.1, hx.2.2.1, hx.2.2.2.1, hx.2.2.2.2.1⟩
  · simp only; omega
theorem opnOps (n : Nat) : Opn enc Try.prog W n 22 (fun l : List My.MOp => [.s none (l.map opV)]) (fun l => ∀ a ∈ l, a.ok) (fun l => (l.map fun o => o.data.length + 1).sum + 1) :=
  Opn.sl (e := 38) (k := 18) opV (by kernel_rfl) (by kernel_rfl) (by decide) (fun _ => rfl) (opnOp _)
end
theorem ops_small {l : List My.MOp} {n : Nat} (h : (l.map fun o => o.data.length + 1).sum + 1 ≤ n) : l.length < n ∧ ∀ o ∈ l, o.data.length < n := by
  induction l generalizing n with
  | nil => exact ⟨by simp at h ⊢; omega, fun o h => by cases h⟩
  | cons a l ih =>
    simp only [List.map_cons, List.sum_cons] at h
    obtain ⟨h1, h2⟩ := ih (n := n - (a.data.length + 1)) (by omega)
    refine ⟨by simp only [List.length_cons]; omega, fun o ho => ?_⟩
    rcases List.mem_cons.1 ho with rfl | ho
    · omega
    · have := h2 o ho; omega
theorem ops_ok {l : List My.MOp} (hk : ∀ o ∈ l, o.ok) {n : Nat} (h : (l.map fun o => o.data.length + 1).sum + 1 ≤ n) (hn : n ≤ 1048576) : l.length < 10000000 ∧ ∀ o ∈ l, o.ok ∧ o.data.length < 1099511627776 := by
  obtain ⟨h1, h2⟩ := ops_small h
  exact ⟨by omega, fun o ho => ⟨hk o ho, by have := h2 o ho; omega⟩⟩
end Lf
end Go.Proofs.Ytgioofknlbdfjaa

/- The laws of package memory: MemoryConvex, MemoryOnce. -/
namespace Go.Proofs.Ytgioofknlbdfjaa
open Go.RowKit Rg Wm Ar
set_option maxRecDepth 100000
namespace Lf
namespace Mw
set_option maxHeartbeats 2000000 in
theorem MemoryConvex (n : Int) (hn : -9223372036854775808 ≤ n ∧ n ≤ 9223372036854775807) : LF Try.prog 4 [.k (.int .i64 n)] (fun _ => .k (.bool true)) none := by
  have c1 := alive11
  by_cases h1 : n < 1
  · refine LFx.mk' tt Try.func4 rfl rfl rfl (by kernel_rfl) rfl rfl fun F => ?_
    exact wk trueW trueW trueW
  · by_cases h2 : n ≥ 128
    · refine LFx.mk' tt Try.func4 rfl rfl rfl (by kernel_rfl) rfl rfl fun F => ?_
      exact wk trueW trueW trueW
    · obtain ⟨k, rfl⟩ := Int.eq_ofNat_of_zero_le (show 0 ≤ n by omega)
      obtain ⟨q1, q2, q3⟩ := My.convex0 k (by omega) (by omega)
      have l1 := My.cost_lt (k - 1)
      have l2 := My.cost_lt k
      have l3 := My.cost_lt (k + 1)
      have c2 := Cost (k - 1) (by omega)
      have c3 := Cost k (by omega)
      have c4 := Cost (k + 1) (by omega)
      generalize My.cost (k - 1) = x at *
      generalize My.cost (k + 1) = z at *
      generalize My.cost k = y at *
      have hw : IntKind.u64.wrap ((y : Int) - (x : Int)) = ((y - x : Nat) : Int) := by rw [wrap_u64 (by omega)]; omega
      refine LFx.mk' tt Try.func4 rfl rfl rfl (by kernel_rfl) rfl rfl fun F => ?_
      exact wk trueW trueW trueW
set_option maxHeartbeats 2000000 in
theorem MemoryOnce (ops : List My.MOp) (hl : ops.length < 10000000) (ho : ∀ o ∈ ops, o.ok ∧ o.data.length < 1099511627776) : LF Try.prog 3 [.s none (ops.map opV)] (fun _ => .k (.bool true)) none := by
  have c1 := alive11
  have c2 := Play ops (by omega) ho
  have hG := My.play_good My.zero_good ops
  have hP := My.paid_zero ops
  have hA := My.play_len My.zero ops
  generalize My.play My.zero ops = r at *
  obtain ⟨A, g, l⟩ := r
  obtain ⟨hG1, hG2⟩ := hG
  simp only at *
  have c3 := Cost (l.length / 32) (by omega)
  have hPl := My.cost_lt (l.length / 32)
  generalize My.cost (l.length / 32) = C at *
  refine LFx.mk' tt Try.func3 rfl rfl rfl (by kernel_rfl) rfl rfl fun F => ?_
  refine wk ?_ trueW trueW
  refine LC.loop2 (fun i S => [(0, .s none (ops.map opV)), (3, .s none (A.map ansV)), (4, .s none (l.map bK)), (5, uK S), (15, .s none (A.map ansV)), (16, .k (.int .i64 ((A.length : Nat) : Int))), (17, .k (.int .i64 ((i : Nat) : Int)))]) (fun i S => []) (fun i S => i ≤ A.length ∧ S = My.paid (A.take i)) ((A.length - ·)) (0) (0) ⟨by omega, rfl⟩ ⟨rfl, rfl, rfl, rfl, rfl, rfl, rfl, trivial⟩ trivial rfl (by first | exact rfl | (simp only [V.cells, refsE, refsM, V.refs, V.refs.go, V.pure, V.pure.go, pure_mapq, pure_mapb, pure_mapu, refs_mapq, refs_mapb, refs_mapu, refs_append, Bool.and_true, Bool.true_and, Bool.and_self] <;> exact rfl) | (simp only [V.cells, refsE, refsM, V.refs, V.refs.go, V.pure, V.pure.go, pure_mapq, pure_mapb, pure_mapu, refs_mapq, refs_mapb, refs_mapu, refs_append, Bool.and_true, Bool.true_and, Bool.and_self, hrf] <;> exact rfl) | (simp only [V.cells, refsE, refsM, V.refs, V.refs.go, V.pure, V.pure.go, pure_mapq, pure_mapb, pure_mapu, refs_mapq, refs_mapb, refs_mapu, refs_append, Bool.and_true, Bool.true_and, Bool.and_self, hrf, hrg] <;> exact rfl) | exact lz) (by first | exact rfl | (simp only [V.cells, refsE, refsM, V.refs, V.refs.go, V.pure, V.pure.go, pure_mapq, pure_mapb, pure_mapu, refs_mapq, refs_mapb, refs_mapu, refs_append, Bool.and_true, Bool.true_and, Bool.and_self] <;> exact rfl) | (simp only [V.cells, refsE, refsM, V.refs, V.refs.go, V.pure, V.pure.go, pure_mapq, pure_mapb, pure_mapu, refs_mapq, refs_mapb, refs_mapu, refs_append, Bool.and_true, Bool.true_and, Bool.and_self, hrf] <;> exact rfl) | (simp only [V.cells, refsE, refsM, V.refs, V.refs.go, V.pure, V.pure.go, pure_mapq, pure_mapb, pure_mapu, refs_mapq, refs_mapb, refs_mapu, refs_append, Bool.and_true, Bool.true_and, Bool.and_self, hrf, hrg] <;> exact rfl) | exact lz) ?_
  rintro i S ⟨hi, hS⟩
  rcases Nat.lt_or_ge i A.length with h | h
  · have hai : A[i]? = some (A.getD i default) := by rw [List.getD_eq_getElem?_getD, List.getElem?_eq_getElem h]; rfl
    have hpt := My.paid_take hai
    have hle := My.paid_take_le A (i + 1)
    obtain ⟨_, ld1, _, _, _⟩ := ansC_ok (A.getD i default)
    have hal := ansV_len (A.getD i default)
    have hrf := ansC_refs (A.getD i default)
    have hal2 := ansC_len (A.getD i default)
    have hok : i + 1 ≤ A.length ∧ S + (A.getD i default).cost = My.paid (A.take (i + 1)) := ⟨by omega, by omega⟩
    clear hS hpt
    exact wk trueW trueW trueW
  · obtain rfl : i = A.length := by omega
    rw [List.take_length] at hS
    have hSC : S = C := by omega
    subst hSC
    clear hS
    exact wk trueW trueW trueW
end Mw
end Lf
end Go.Proofs.Ytgioofknlbdfjaa

/- The law MemoryRead. -/
namespace Go.Proofs.Ytgioofknlbdfjaa
open Go.RowKit Rg Wm Ar
set_option maxRecDepth 100000
namespace Lf
theorem ans_b1 (w : Nat) : ∃ cs, vfill (fun i => [(0, 1), (1, 4), (5, 1)][i]?) ([Z.int .i64, .int .u64, .int .u64, .int .u64, .int .u64, .int .u64].map Z.v) [(1, wV w)] = some cs ∧ V.cv.go (fun _ => false) true cs = ansC ⟨0, w, 0⟩ := by
  obtain ⟨w0, w1, w2, w3, hw⟩ := four (limbs_len w)
  simp only [ansC, wV, hw]
  exact ⟨_, rfl, rfl⟩
theorem cmp_ge {x y : Nat} : Wd.cmp x y ≥ 0 ↔ y % M256 ≤ x % M256 := by
  unfold Wd.cmp
  split
  · exact ⟨fun h => by omega, fun h => by omega⟩
  · split
    · exact ⟨fun _ => by omega, fun _ => by omega⟩
    · exact ⟨fun h => by omega, fun h => by omega⟩
theorem apart_of {a b : Nat} (ha : a < M256) (hb : b < M256) (h1 : Wd.cmp a b > 0) (h2 : Wd.cmp (dif a b) 32 ≥ 0) : b + 32 ≤ a := by
  rw [cmp_pos, Nat.mod_eq_of_lt ha, Nat.mod_eq_of_lt hb] at h1
  rw [cmp_ge, dif_small (by omega) ha, Nat.mod_eq_of_lt (show 32 < M256 by unfold M256 m64; decide)] at h2
  omega
theorem getD_app {α : Type} [Inhabited α] {l m : List α} {n k : Nat} (hl : l.length = n) (hk : k < m.length) : (l ++ m).getD (n + k) default = m.getD k default := by
  subst hl
  rw [List.getD_eq_getElem?_getD, List.getElem?_append_right (by omega), Nat.add_sub_cancel_left, ← List.getD_eq_getElem?_getD]
namespace Mw
set_option maxHeartbeats 8000000 in
theorem MemoryRead (ops : List My.MOp) (a w f : Nat) (ha : a < M256) (hw : w < M256) (hf : f < M256) (hl : ops.length < 10000000) (ho : ∀ o ∈ ops, o.ok ∧ o.data.length < 1099511627776) : LF Try.prog 5 [.s none (ops.map opV), wV a, wV w, wV f] (fun _ => .k (.bool true)) none := by
  have c1 := alive11
  have hsz0 : ∀ e ∈ ops.map opV, e.cells.length = 18 := fun e he => by obtain ⟨x, _, rfl⟩ := List.mem_map.1 he; exact opV_len x
  have c2 := Sl2.CloneMO (ops.map opV) hsz0 (by rw [List.length_map]; omega)
  have h0 : (0 : Nat) < M256 := by unfold M256 m64; decide
  have c3 := Play (ops ++ [My.opN 1 f 0, My.opN 2 a w, My.opN 1 a 0, My.opN 1 f 0]) (by simp only [List.length_append, List.length_cons, List.length_nil]; omega) (fun o hm => by
    rcases List.mem_append.1 hm with hm | hm
    · exact ho o hm
    · simp only [List.mem_cons, List.not_mem_nil, or_false] at hm
      rcases hm with rfl | rfl | rfl | rfl
      · exact ⟨ok_opN hf h0, show 0 < 1099511627776 by decide⟩
      · exact ⟨ok_opN ha hw, show 0 < 1099511627776 by decide⟩
      · exact ⟨ok_opN ha h0, show 0 < 1099511627776 by decide⟩
      · exact ⟨ok_opN hf h0, show 0 < 1099511627776 by decide⟩)
  obtain ⟨a0, a1, a2, a3, hR, hlaw⟩ := My.read_law (My.play_good My.zero_good ops) (a := a) (w := w) (f := f) hw
  have hA : (My.play My.zero (ops ++ [My.opN 1 f 0, My.opN 2 a w, My.opN 1 a 0, My.opN 1 f 0])).1 = (My.play My.zero ops).1 ++ [a0, a1, a2, a3] := by rw [My.play_app, hR]
  have hAn := My.play_len My.zero ops
  generalize My.play My.zero (ops ++ [My.opN 1 f 0, My.opN 2 a w, My.opN 1 a 0, My.opN 1 f 0]) = r at *
  obtain ⟨A, g, l⟩ := r
  simp only at hA c3
  have g0 : A.getD ops.length default = a0 := by rw [hA]; exact getD_app hAn (k := 0) (show 0 < 4 by decide)
  have g1 : A.getD (ops.length + 1) default = a1 := by rw [hA]; exact getD_app hAn (k := 1) (show 1 < 4 by decide)
  have g2 : A.getD (ops.length + 2) default = a2 := by rw [hA]; exact getD_app hAn (k := 2) (show 2 < 4 by decide)
  have g3 : A.getD (ops.length + 3) default = a3 := by rw [hA]; exact getD_app hAn (k := 3) (show 3 < 4 by decide)
  have hAl : A.length = ops.length + 4 := by rw [hA, List.length_append, hAn]; rfl
  clear hA hR hAn
  subst g0; subst g1; subst g2; subst g3
  simp only [List.map_append, List.map_cons, List.map_nil] at c3
  have c4 := Wo.Cmp a f
  have c5 := Wo.Sub a f
  have c6 := Wo.IntW 32 (by unfold m64; decide)
  have c7 := Wo.Cmp (dif a f) 32
  have c8 := Wo.Cmp f a
  have c9 := Wo.Sub f a
  have c10 := Wo.Cmp (dif f a) 32
  have hp1 := @apart_of a f ha hf
  have hp2 := @apart_of f a hf ha
  obtain ⟨x1, b1, b2⟩ := op_b0 2 a w
  obtain ⟨x2, b3, b4⟩ := op_b1 1 a
  obtain ⟨x3, b5, b6⟩ := op_b1 1 f
  obtain ⟨x4, b7, b8⟩ := ans_b1 w
  have kd1 := ansC_kinds
  have hbr := opV_bare
  have hs1 := opV_len (My.opN 2 a w)
  have hs2 := opV_len (My.opN 1 a 0)
  have hs3 := opV_len (My.opN 1 f 0)
  have ht1 := (opC_ok (My.opN 2 a w)).len
  have ht2 := (opC_ok (My.opN 1 a 0)).len
  have ht3 := (opC_ok (My.opN 1 f 0)).len
  have hla := limbs_len a
  have hlw := limbs_len w
  have hlf := limbs_len f
  have hl0 := limbs_len (A.getD ops.length default).word
  have hl3 := limbs_len (A.getD (ops.length + 3) default).word
  have ld1 := (ansC_ok (A.getD (ops.length + 1) default)).q0
  have ld2 := (ansC_ok (A.getD (ops.length + 3) default)).q1
  have ld3 := (ansC_ok (A.getD ops.length default)).q1
  have hv0 := ansV_len (A.getD ops.length default)
  have hv1 := ansV_len (A.getD (ops.length + 1) default)
  have hv3 := ansV_len (A.getD (ops.length + 3) default)
  have hv2 := ansV_len (A.getD (ops.length + 2) default)
  have hu2 := ansC_len (A.getD (ops.length + 2) default)
  generalize Wd.cmp a f = z1 at *
  generalize Wd.cmp (dif a f) 32 = z2 at *
  generalize Wd.cmp f a = z3 at *
  generalize Wd.cmp (dif f a) 32 = z4 at *
  refine LFx.mk' tt Try.func5 rfl rfl rfl (by kernel_rfl) rfl rfl fun F => ?_
  rcases hlaw with ⟨hE, hW⟩ | ⟨hE, hE2, hW⟩
  · have hWl : limbs (A.getD (ops.length + 3) default).word = limbs (A.getD ops.length default).word := by rw [hW]
    clear hW hp1 hp2
    exact wk trueW trueW trueW
  · have hE3 : ansC (A.getD (ops.length + 2) default) = ansC ⟨0, w, 0⟩ := by rw [hE2]
    clear hE2
    by_cases q1 : z1 > 0
    · by_cases q2 : z2 ≥ 0
      · have hWl : limbs (A.getD (ops.length + 3) default).word = limbs (A.getD ops.length default).word := by rw [hW (.inr (hp1 q1 q2))]
        clear hW hp1 hp2
        exact wk trueW trueW trueW
      · by_cases q3 : z3 > 0
        · by_cases q4 : z4 ≥ 0
          · have hWl : limbs (A.getD (ops.length + 3) default).word = limbs (A.getD ops.length default).word := by rw [hW (.inl (hp2 q3 q4))]
            clear hW hp1 hp2
            exact wk trueW trueW trueW
          · clear hW hp1 hp2
            exact wk trueW trueW trueW
        · clear hW hp1 hp2
          exact wk trueW trueW trueW
    · by_cases q3 : z3 > 0
      · by_cases q4 : z4 ≥ 0
        · have hWl : limbs (A.getD (ops.length + 3) default).word = limbs (A.getD ops.length default).word := by rw [hW (.inl (hp2 q3 q4))]
          clear hW hp1 hp2
          exact wk trueW trueW trueW
        · clear hW hp1 hp2
          exact wk trueW trueW trueW
      · clear hW hp1 hp2
        exact wk trueW trueW trueW
end Mw
end Lf
end Go.Proofs.Ytgioofknlbdfjaa

/- MemoryRead: the law's function answers true at every input of bulk at most 1048576, and touches no old memory; from its walk to the given statement. Conditions: the statement's own bound, nothing else. -/
namespace Go.Proofs.Ytgioofknlbdfjaa.lawMemoryRead
open Go.ChangeShapes Go.WideShapes Go.ChangeAt Go.RowKit Rp
set_option linter.unusedVariables false

theorem own : ownKnob Try.prog.godebug = none := by kernel_rfl
theorem laid : laidOutB Try.prog = true := by kernel_rfl
theorem rd_x0 : Try.prog.readableRec 22 = true ∧ 22 < Try.prog.types.size := ⟨by kernel_rfl, of_decide_eq_true (by kernel_rfl)⟩
theorem rd_x1 : Try.prog.readableRec 31 = true ∧ 31 < Try.prog.types.size := ⟨by kernel_rfl, of_decide_eq_true (by kernel_rfl)⟩
theorem rds : ∀ t ∈ ([22, 31, 31, 31] : List Nat), Try.prog.readableRec t = true ∧ t < Try.prog.types.size := by
  intro t ht
  rcases List.mem_cons.1 ht with rfl | ht
  · exact rd_x0
  rcases List.mem_cons.1 ht with rfl | ht
  · exact rd_x1
  rcases List.mem_cons.1 ht with rfl | ht
  · exact rd_x1
  rcases List.mem_cons.1 ht with rfl | ht
  · exact rd_x1
  cases ht

theorem contract (H : Type) (enc : TypeId × Value → H) (W : World) (base : Nat) (args : Array Value) (ds gs : List (DataW H)) (before : List MemPlace)
    (hval : ∀ (j : Nat) t v, Try.f5.params[j]? = some t → args[j]? = some v → Value.okWide Try.prog W .any base t v)
    (hW : DataW.Whole enc Try.prog Try.f5.params.toList Rows.memoryReadSpec.vars false W args.toList ds gs before) (hk : Rows.uptoSmall H (ds ++ gs) = true) :
    Calls Try.prog 5 args W fun e W' => ∃ v, e = .returned v ∧ Rows.memoryReadSpec.post enc Try.prog Try.f5 false true false false W args v W' := by
  have hW0 := hW
  obtain ⟨p, q, hA0, hV, rfl, hfz, hnd⟩ := hW
  have hA : DataW.TrodAll enc Try.prog W 0 (fun _ => true) true Try.f5.params.toList args.toList ds p := hA0
  rw [Try.params5] at hA hval
  obtain ⟨v0, vs0, d0, ds0, p0, q0, hargs, rfl, rfl, h0, r0⟩ := trodAll_cons hA
  obtain ⟨v1, vs1, d1, ds1, p1, q1, rfl, rfl, rfl, h1, r1⟩ := trodAll_cons r0
  obtain ⟨v2, vs2, d2, ds2, p2, q2, rfl, rfl, rfl, h2, r2⟩ := trodAll_cons r1
  obtain ⟨v3, vs3, d3, ds3, p3, q3, rfl, rfl, rfl, h3, r3⟩ := trodAll_cons r2
  obtain ⟨rfl, rfl, rfl⟩ := trodAll_nil r3
  obtain rfl : args = #[v0, v1, v2, v3] := by cases args; simp_all
  obtain ⟨rfl, rfl⟩ := trodVars_none hV
  have hbulk : Rows.uptoBulkAll [d0, d1, d2, d3] ≤ 1048576 := by simpa only [List.append_nil] using of_decide_eq_true hk
  simp only [Rows.uptoBulkAll] at hbulk
  obtain ⟨x0, hr0, hk0, hs0⟩ := Lf.Opn.arg1 (fun m => Lf.opnOps m) (by kernel_rfl) (hval 0 22 v0 rfl rfl) h0
  obtain ⟨x1, hr1, hk1, hs1⟩ := Lf.Opn.argA (fun m => Lf.opnWord m) (by kernel_rfl) (hval 1 31 v1 rfl rfl) h1
  obtain ⟨x2, hr2, hk2, hs2⟩ := Lf.Opn.argA (fun m => Lf.opnWord m) (by kernel_rfl) (hval 2 31 v2 rfl rfl) h2
  obtain ⟨x3, hr3, hk3, hs3⟩ := Lf.Opn.argA (fun m => Lf.opnWord m) (by kernel_rfl) (hval 3 31 v3 rfl rfl) h3
  refine (Lf.LF.holds (Lf.Mw.MemoryRead x0 x1 x2 x3 hk1 hk2 hk3 (Lf.ops_ok hk0 hs0 (by omega)).1 (Lf.ops_ok hk0 hs0 (by omega)).2) W [v0, v1, v2, v3] ⟨hr0, hr1, hr2, hr3, trivial⟩).mono fun e W' ⟨he, hx⟩ => ⟨_, he, Fr.post_of_below laid hW0 rfl rfl (by rw [Try.params5]; exact rds) (tb := 4) rfl (by kernel_rfl) hx⟩

set_option maxRecDepth 100000 in
theorem lifted (os : Os) (started : os.Started) (H : Type) (enc : TypeId × Value → H) (F : Stop.Interp) :
    ReturnsInHanded {} Try.checked os 5 .any ((Rows.OpenSpec.upto Rows.memoryReadSpec).pre6 enc Try.prog Try.f5 Rows.memoryReadUptoRow.domain false) (((Rows.OpenSpec.upto Rows.memoryReadSpec).at F).post enc Try.prog Try.f5 false true false false) := by
  refine returnsInHanded_of_cond (C := Try.checked) (s := Rows.OpenSpec.upto Rows.memoryReadSpec) (k := Rows.uptoSmall) rfl own started (by kernel_rfl) Try.func5
    (OpenSpec.witness (enc := enc) (C := Try.checked) (s := Rows.OpenSpec.upto Rows.memoryReadSpec) (k := Rows.uptoSmall) rfl false ⟨#[], #[.slice none 0 0, .agg #[.int .u64 0, .int .u64 0, .int .u64 0, .int .u64 0], .agg #[.int .u64 0, .int .u64 0, .int .u64 0, .int .u64 0], .agg #[.int .u64 0, .int .u64 0, .int .u64 0, .int .u64 0]], []⟩ 8 (by kernel_rfl) (by kernel_rfl) (by kernel_rfl)
      (x := ([.nil, .agg [.lit (.int .u64 0), .lit (.int .u64 0), .lit (.int .u64 0), .lit (.int .u64 0)], .agg [.lit (.int .u64 0), .lit (.int .u64 0), .lit (.int .u64 0), .lit (.int .u64 0)], .agg [.lit (.int .u64 0), .lit (.int .u64 0), .lit (.int .u64 0), .lit (.int .u64 0)]], [], [])) (by kernel_rfl) rfl (by kernel_rfl)) ?_
  intro W base args ds gs before hval hW _ hk _
  exact contract H enc W base args ds gs before hval hW hk

theorem proved : Rows.MemoryReadUptoSaid :=
  OpenClaim.holds_of_cond 5 Try.f5 rfl rfl rfl rfl rfl rfl rfl ⟨rfl, rfl, rfl, rfl, rfl⟩ rfl rfl rfl rfl rfl (by kernel_rfl) Try.func5 (by kernel_rfl)
    (of_decide_eq_true (by kernel_rfl)) (by unfold Func.isWrapper; first | (rw [if_pos (by decide +kernel)]; kernel_rfl) | (rw [if_neg (by decide +kernel)]; exact ⟨rfl, rfl⟩))
    (fun os started H enc _ F => lifted os started H enc F)
end Go.Proofs.Ytgioofknlbdfjaa.lawMemoryRead
