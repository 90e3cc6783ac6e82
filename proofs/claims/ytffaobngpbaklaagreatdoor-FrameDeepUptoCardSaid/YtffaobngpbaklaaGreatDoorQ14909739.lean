/- A part of the proof: texts joined. -/
import Derived.Test.YtffaobngpbaklaaGreatDoorQ166620d
import Derived.Test.YtffaobngpbaklaaGreatDoorQ113cc649
import Derived.Test.YtffaobngpbaklaaGreatDoorQ12ec384d
import Derived.Test.YtffaobngpbaklaaGreatDoorQ135a5916
set_option linter.unusedVariables false
set_option linter.unusedSimpArgs false
namespace Go.Proofs.YtffaobngpbaklaaGreatDoor
open Wm Ar
set_option maxRecDepth 20000
namespace Lf
namespace Fm
open FrP
structure MS where
 m : My.St
 sg : Nat
 st : List Nat
 pc : Nat
def words (n : Nat) : Nat := (n + 31) / 32
def cut (b : List UInt8) (f n : Nat) : List UInt8 := (b.drop f).take n ++ List.replicate (n - (b.length - f)) 0
theorem cut_len (b : List UInt8) (f n : Nat) : (cut b f n).length = n := by
 unfold cut
 rw [List.length_append, List.length_take, List.length_drop, List.length_replicate]
 omega
def ofW (n : Nat) : Bool := [48, 49, 50, 51, 56, 57, 64, 65, 66, 84, 85, 240, 241, 243, 244, 160, 161, 162].contains n
def cnt (n : Nat) : Nat × Nat :=
 if 96 ≤ n ∧ n < 128 then (0, 1)
 else if 128 ≤ n ∧ n < 144 then (n - 128 + 1, n - 128 + 1 + 1)
 else if 144 ≤ n ∧ n < 160 then (n - 144 + 2, n - 144 + 2)
 else if 160 ≤ n ∧ n ≤ 162 then (n - 160 + 2, 0)
 else if n = 8 ∨ n = 9 then (3, 1)
 else if n = 21 ∨ n = 25 ∨ n = 49 ∨ n = 52 ∨ n = 81 ∨ n = 84 then (1, 1)
 else if n = 80 ∨ n = 86 then (1, 0)
 else if n = 82 ∨ n = 83 ∨ n = 85 ∨ n = 87 ∨ n = 242 ∨ n = 253 then (2, 0)
 else if n = 54 ∨ n = 57 then (3, 0)
 else if n = 0 ∨ n = 91 then (0, 0)
 else if n = 240 then (3, 1)
 else if n = 241 then (5, 1)
 else if n = 243 ∨ n = 244 then (4, 1)
 else if n = 48 ∨ n = 50 ∨ n = 51 ∨ n = 53 ∨ n = 55 ∨ n = 56 ∨ n = 64 ∨ n = 65 ∨ n = 66 ∨ n = 88 ∨ n = 89 ∨ n = 90 then (0, 1)
 else (2, 1)
def flag (b : Bool) : Nat := if b then 1 else 0
def two (n a b : Nat) : Option Nat :=
 if n = 1 then some (a + b)
 else if n = 2 then some (a * b)
 else if n = 3 then some (dif a b)
 else if n = 4 then some (qW a b)
 else if n = 6 then some (rW a b)
 else if n = 5 then some (sqW a b)
 else if n = 7 then some (srW a b)
 else if n = 11 then some (extW a b)
 else if n = 16 then some (flag (decide (Wd.cmp a b < 0)))
 else if n = 17 then some (flag (decide (Wd.cmp a b > 0)))
 else if n = 18 then some (flag (decide (scmp a b < 0)))
 else if n = 19 then some (flag (decide (scmp a b > 0)))
 else if n = 20 then some (flag (decide (a % M256 = b % M256)))
 else if n = 22 then some (a &&& b)
 else if n = 23 then some (a ||| b)
 else if n = 24 then some (a ^^^ b)
 else if n = 26 then some (byteW a b)
 else if n = 27 then some (b * 2 ^ (a % M256))
 else if n = 28 then some (b % M256 / 2 ^ (a % M256))
 else if n = 29 then some (sarW a b)
 else none
def push (s : MS) (x : Nat) : MS := { s with sg := s.sg + 1, st := x :: s.st }
def touch (s : MS) (a n mul : Nat) (k : MS → FrP.Act MS) : FrP.Act MS :=
 match My.need s.m.l.length (a % M256) (n % M256) with
 | none => .fail 6
 | some z => .pay (My.price s.m.l.length z + mul * words (n % M256)) (k { s with m := My.grow s.m z })
def jmp (c : List UInt8) (s : MS) (t : Nat) : FrP.Act MS := if t % M256 ∈ Co.lands c then .next { s with pc := t % M256 } else .fail 8
def tells (c inp : List UInt8) (n : Nat) (s : MS) (g : Nat) : Option Nat :=
 if n = 53 then some inp.length
 else if n = 55 then some c.length
 else if n = 88 then some s.pc
 else if n = 89 then some s.m.l.length
 else if n = 90 then some g
 else none
def nx (c : List UInt8) (s : MS) : FrP.Act MS := .next { s with pc := Co.nxt c s.pc }
def eff (c inp : List UInt8) (n : Nat) (s : MS) (g : Nat) : FrP.Act MS :=
 if n = 0 then .stop []
 else if n = 242 then match s.st with
  | a :: z :: r => touch { s with st := r } a z 0 fun s => .stop (My.view s.m.l (a % M256) (z % M256))
  | _ => .fail 9
 else if n = 253 then match s.st with
  | a :: z :: r => touch { s with st := r } a z 0 fun s => .rev (My.view s.m.l (a % M256) (z % M256))
  | _ => .fail 9
 else if n = 86 then match s.st with
  | t :: r => jmp c { s with st := r } t
  | _ => .fail 9
 else if n = 87 then match s.st with
  | t :: k :: r => if k % M256 = 0 then nx c { s with st := r } else jmp c { s with st := r } t
  | _ => .fail 9
 else if n = 91 then nx c s
 else if 96 ≤ n ∧ n < 128 then nx c (push s (Ps.beN (cut (c.drop (s.pc + 1)) 0 (n - 95))))
 else if n = 21 then match s.st with
  | a :: r => nx c (push { s with st := r } (flag (decide (a % M256 = 0))))
  | _ => .fail 9
 else if n = 25 then match s.st with
  | a :: r => nx c (push { s with st := r } (notN a))
  | _ => .fail 9
 else if n = 8 then match s.st with
  | a :: b :: m :: r => nx c (push { s with st := r } (amW a b m))
  | _ => .fail 9
 else if n = 9 then match s.st with
  | a :: b :: m :: r => nx c (push { s with st := r } (mmW a b m))
  | _ => .fail 9
 else if n = 10 then match s.st with
  | a :: b :: r => .pay (10 * (Pk.numL (b % M256)).length) (nx c (push { s with st := r } (a ^ (b % M256))))
  | _ => .fail 9
 else if n = 80 then match s.st with
  | _ :: r => nx c { s with st := r }
  | _ => .fail 9
 else if 128 ≤ n ∧ n < 144 then nx c (push s (s.st.getD (n - 128) 0))
 else if 144 ≤ n ∧ n < 160 then nx c { s with st := (s.st.set 0 (s.st.getD (n - 143) 0)).set (n - 143) (s.st.getD 0 0) }
 else if n = 32 then match s.st with
  | a :: z :: r => touch { s with st := r } a z 6 fun s => nx c (push s (Ps.beN (sumB (My.view s.m.l (a % M256) (z % M256)))))
  | _ => .fail 9
 else if n = 52 then match s.st with
  | a :: r => nx c (push { s with st := r } (Ps.beN (cut inp (a % M256) 32)))
  | _ => .fail 9
 else if n = 54 then match s.st with
  | a :: f :: z :: r => touch { s with st := r } a z 3 fun s => nx c { s with m := ⟨s.m.gen, if z % M256 = 0 then s.m.l else Lf.put s.m.l (a % M256) (cut inp (f % M256) (z % M256))⟩ }
  | _ => .fail 9
 else if n = 81 then match s.st with
  | a :: r => touch { s with st := r } a 32 0 fun s => nx c (push s (Ps.beN (My.view s.m.l (a % M256) 32)))
  | _ => .fail 9
 else if n = 82 then match s.st with
  | a :: x :: r => touch { s with st := r } a 32 0 fun s => nx c { s with m := ⟨s.m.gen, Lf.put s.m.l (a % M256) (wordB x)⟩ }
  | _ => .fail 9
 else if n = 83 then match s.st with
  | a :: x :: r => touch { s with st := r } a 1 0 fun s => nx c { s with m := ⟨s.m.gen, s.m.l.set (a % M256) (UInt8.ofNat x)⟩ }
  | _ => .fail 9
 else match tells c inp n s g with
  | some x => nx c (push s x)
  | none => match s.st with
   | a :: b :: r => match two n a b with
    | some x => nx c (push { s with st := r } x)
    | none => .fail 9
   | _ => .fail 9
def act (c inp : List UInt8) (s : MS) (g : Nat) : FrP.Act MS :=
 if c.length ≤ s.pc then .stop []
 else if Cn.name (c.getD s.pc default).toNat = [] ∨ ofW (c.getD s.pc default).toNat = true then .fail 9
 else if s.st.length < (cnt (c.getD s.pc default).toNat).1 ∨ 64 < s.st.length - (cnt (c.getD s.pc default).toNat).1 + (cnt (c.getD s.pc default).toNat).2 then .fail 7
 else .pay (Pr.opN (c.getD s.pc default).toNat) (eff c inp (c.getD s.pc default).toNat s (g - Pr.opN (c.getD s.pc default).toNat))
abbrev S0 : MS := ⟨My.zero, 0, [], 0⟩
def run (c inp : List UInt8) (g : Nat) (r : Res) : Prop := Runs 10 14 (act c inp) S0 g r
end Fm
end Lf
open Go.RowKit Rg Wm Ar
set_option linter.unusedVariables false
set_option maxRecDepth 100000
namespace Lf
def sk : List Nat → List V
 | [] => []
 | a :: r => sk r ++ [wV a]
theorem sk_eq : ∀ st, sk st = st.reverse.map wV
 | [] => rfl
 | a :: r => by rw [sk, sk_eq r, List.reverse_cons, List.map_append]; rfl
theorem sk_len (st : List Nat) : (sk st).length = st.length := by rw [sk_eq, List.length_map, List.length_reverse]
theorem sk_cells {st : List Nat} : ∀ e ∈ sk st, e.cells.length = 4 := fun e he => by
 rw [sk_eq] at he
 obtain ⟨x, _, rfl⟩ := List.mem_map.1 he
 exact (List.length_map _).trans (limbs_len x)
def mL (L : List Nat) : List (Value × V) := L.map fun (p : Nat) => (Value.int .i64 ((p : Nat) : Int), V.a [])
abbrev frM (c inp : List UInt8) (g mg : Nat) (l : List UInt8) (sg : Nat) (st : List Nat) (pc : Nat) (o : List UInt8) : Mem :=
 [(1000, .b [.s none (c.map bK), .s none (inp.map bK), uK g, .w 1001 mg 1 0 l.length, .w 1002 sg 4 0 st.length, .mp 1003, .k (.int .i64 ((pc : Nat) : Int)), .s none (o.map bK)]), (1001, .w 5 1 mg (l.map bK)), (1002, .w 36 4 sg (sk st)), (1003, .m (mL (Co.lands c)))]
theorem M256_big : 4096 < M256 := by unfold M256 m64; decide
theorem dif_small {x y : Nat} (h : y ≤ x) (hx : x < M256) : dif x y % M256 = x - y := by
 have := dif_mod x y
 have h1 : y < M256 := by omega
 unfold dif at this ⊢
 rw [Nat.mod_eq_of_lt h1, show x + (M256 - y) = (x - y) + M256 by omega, Nat.add_mod_right, Nat.mod_eq_of_lt (by omega)]
theorem limb0 (x : Nat) (h : x < m64) : (limbs x).getD 0 default = x := by rw [limbs_small h]; rfl
theorem limbs_zero {x : Nat} : limbs x = List.replicate 4 0 ↔ x % M256 = 0 := by
 have h : List.replicate 4 0 = limbs 0 := by unfold limbs; decide
 rw [h, limbs_iff, Nat.zero_mod]
theorem small64 {x : Nat} (h : x ≤ 4096) : x < m64 := by unfold m64; omega
theorem limb0m {x : Nat} (h : x % M256 ≤ 4096) : (limbs x).getD 0 default = x % M256 := by
 rw [← limbs_eq (Nat.mod_mod x M256)]
 exact limb0 _ (small64 h)
namespace Fw
theorem Cost (w : Nat) (h : w ≤ 128) : LF Tryz.prog 92 [.k (.int .i64 (w : Int))] (fun _ => uK (My.cost w)) none := by
 have hw : w * w ≤ 128 * 128 := Nat.mul_le_mul h h
 have e : My.cost w = 3 * w + w * w / 64 := if_pos h
 rw [e]
 clear e
 refine LFx.mk' tt Tryz.func92 rfl rfl rfl (by kernel_rfl) rfl rfl fun F => ?_
 exact wk trueW trueW trueW
theorem Size (c inp : List UInt8) (g mg : Nat) (l : List UInt8) (sg : Nat) (st : List Nat) (pc : Nat) (o : List UInt8) (hL : l.length ≤ 4096) : LM Tryz.prog 88 [.p 1000 3] (frM c inp g mg l sg st pc o) fun q m => q = .ret (.k (.int .i64 ((l.length : Nat) : Int))) ∧ m = frM c inp g mg l sg st pc o := by
 refine LM.enter tt Tryz.func88 rfl rfl rfl (by kernel_rfl) rfl rfl rfl (fun o mo h => by rw [h.2]; rfl) fun F _ => ?_
 exact wk trueW trueW trueW
set_option maxHeartbeats 1000000 in
theorem Price (c inp : List UInt8) (g mg : Nat) (l : List UInt8) (sg : Nat) (st : List Nat) (pc : Nat) (o : List UInt8) (size : Nat) (hL : l.length ≤ 4096) (h : size ≤ 4096) : LM Tryz.prog 78 [.p 1000 3, .k (.int .i64 (size : Int))] (frM c inp g mg l sg st pc o) fun q m => q = .ret (uK (My.price l.length size)) ∧ m = frM c inp g mg l sg st pc o := by
 have c1 := Cost (size / 32) (by omega)
 have c2 := Cost (l.length / 32) (by omega)
 unfold My.price
 refine LM.enter tt Tryz.func78 rfl rfl rfl (by kernel_rfl) rfl rfl rfl (fun o mo h => by rw [h.2]; rfl) fun F _ => ?_
 by_cases hs : size ≤ l.length
 ·rw [if_pos hs]
  exact wk trueW trueW trueW
 ·rw [if_neg hs]
  have hm := My.cost_mono (a := l.length / 32) (b := size / 32) (by omega) (by omega)
  have hlt := My.cost_lt (size / 32)
  generalize My.cost (size / 32) = a at *
  generalize My.cost (l.length / 32) = b at *
  exact wk trueW trueW trueW
set_option maxHeartbeats 1000000 in
theorem Need_ok (c inp : List UInt8) (g mg : Nat) (l : List UInt8) (sg : Nat) (st : List Nat) (pc : Nat) (o : List UInt8) (a n m : Nat) (hL : l.length ≤ 4096) (h : My.need l.length (a % M256) (n % M256) = some m) : LM Tryz.prog 77 [.p 1000 3, wV a, wV n] (frM c inp g mg l sg st pc o) fun q m' => q = .ret (.t [.k (.int .i64 (m : Int)), .k (.int .i64 0)]) ∧ m' = frM c inp g mg l sg st pc o := by
 have c1 := Wo.IntW 4096 (by unfold m64; decide)
 have c2 := Wo.Cmp a 4096
 have c3 := Wo.Sub 4096 a
 have c4 := Wo.Cmp n (dif 4096 a)
 have hla := limbs_len a
 have hln := limbs_len n
 have hlm := limbs_len 4096
 have hz := limbs_zero (x := n)
 refine LM.enter tt Tryz.func77 rfl rfl rfl (by kernel_rfl) rfl rfl rfl (fun o mo h => by rw [h.2]; rfl) fun F _ => ?_
 unfold My.need at h
 by_cases h0 : n % M256 = 0
 ·rw [if_pos h0] at h
  cases h
  have hz2 := hz.2 h0
  clear hz
  exact wk trueW trueW trueW
 ·rw [if_neg h0] at h
  have hz2 : ¬ limbs n = List.replicate 4 0 := fun k => h0 (hz.1 k)
  clear hz
  have h1 : ¬ (4096 < a % M256 ∨ 4096 - a % M256 < n % M256) := fun k => by rw [if_pos k] at h; cases h
  rw [if_neg h1] at h
  cases h
  have hA : ¬ Wd.cmp a 4096 > 0 := fun k => by
   have := cmp_gt.1 k
   rw [Nat.mod_eq_of_lt M256_big] at this
   omega
  have hB : ¬ Wd.cmp n (dif 4096 a) > 0 := fun k => by
   have := cmp_gt.1 k
   have e : dif 4096 a % M256 = 4096 - a % M256 := by
    have := dif_small (x := 4096) (y := a % M256) (by omega) M256_big
    unfold dif at this ⊢
    rwa [Nat.mod_mod] at this
   rw [e] at this
   omega
  have ea := limb0m (x := a) (by omega)
  have en := limb0m (x := n) (by omega)
  have hup : max l.length (My.up (a % M256 + n % M256)) = max l.length (((limbs a).getD 0 default + (limbs n).getD 0 default + 32 - 1) / 32 * 32) := by unfold My.up; rw [ea, en]; congr 2
  rw [hup]
  clear hup
  generalize Wd.cmp a 4096 = za at *
  generalize Wd.cmp n (dif 4096 a) = zb at *
  have hmx : (if (l.length : Int) < ((((limbs a).getD 0 default + (limbs n).getD 0 default + 32 - 1) / 32 * 32 : Nat) : Int) then ((((limbs a).getD 0 default + (limbs n).getD 0 default + 32 - 1) / 32 * 32 : Nat) : Int) else (l.length : Int)) = ((max l.length (((limbs a).getD 0 default + (limbs n).getD 0 default + 32 - 1) / 32 * 32) : Nat) : Int) := by
   split
   ·rw [Nat.max_eq_right (by omega)]
   ·rw [Nat.max_eq_left (by omega)]
  exact wk trueW trueW trueW
set_option maxHeartbeats 1000000 in
theorem Need_no (c inp : List UInt8) (g mg : Nat) (l : List UInt8) (sg : Nat) (st : List Nat) (pc : Nat) (o : List UInt8) (a n : Nat) (hL : l.length ≤ 4096) (h : My.need l.length (a % M256) (n % M256) = none) : LM Tryz.prog 77 [.p 1000 3, wV a, wV n] (frM c inp g mg l sg st pc o) fun q m' => q = .ret (.t [.k (.int .i64 0), .k (.int .i64 6)]) ∧ m' = frM c inp g mg l sg st pc o := by
  have c1 := Wo.IntW 4096 (by unfold m64; decide)
  have c2 := Wo.Cmp a 4096
  have c3 := Wo.Sub 4096 a
  have c4 := Wo.Cmp n (dif 4096 a)
  have hla := limbs_len a
  have hln := limbs_len n
  have hlm := limbs_len 4096
  refine LM.enter tt Tryz.func77 rfl rfl rfl (by kernel_rfl) rfl rfl rfl (fun o mo h => by rw [h.2]; rfl) fun F _ => ?_
  unfold My.need at h
  have h0 : ¬ n % M256 = 0 := fun k => by rw [if_pos k] at h; cases h
  rw [if_neg h0] at h
  have hz2 : ¬ limbs n = List.replicate 4 0 := fun k => h0 (limbs_zero.1 k)
  have h1 : 4096 < a % M256 ∨ 4096 - a % M256 < n % M256 := Classical.byContradiction fun k => by rw [if_neg k] at h; cases h
  clear h
  by_cases hA : Wd.cmp a 4096 > 0
  · clear h1 h0
    generalize Wd.cmp a 4096 = za at *
    exact wk trueW trueW trueW
  · have hB : Wd.cmp n (dif 4096 a) > 0 := by
      have hA2 : ¬ 4096 < a % M256 := fun k => hA (cmp_gt.2 (by rw [Nat.mod_eq_of_lt M256_big]; exact k))
      have e : dif 4096 a % M256 = 4096 - a % M256 := by
        have := dif_small (x := 4096) (y := a % M256) (by omega) M256_big
        unfold dif at this ⊢
        rwa [Nat.mod_mod] at this
      rw [cmp_gt, e]
      omega
    clear h1 h0
    generalize Wd.cmp a 4096 = za at *
    generalize Wd.cmp n (dif 4096 a) = zb at *
    exact wk trueW trueW trueW
theorem View_ok (c inp : List UInt8) (g mg : Nat) (l : List UInt8) (sg : Nat) (st : List Nat) (pc : Nat) (o : List UInt8) (a n : Nat) (hn : 0 < n % M256) (h : a % M256 + n % M256 ≤ l.length) (hL : l.length ≤ 4096) : LM Tryz.prog 80 [.p 1000 3, wV a, wV n] (frM c inp g mg l sg st pc o) fun q m' => q = .ret (.w 1001 mg 1 (a % M256) (n % M256)) ∧ m' = frM c inp g mg l sg st pc o := by
 have hla := limbs_len a
 have hln := limbs_len n
 have hz2 : ¬ limbs n = List.replicate 4 0 := fun k => by have := limbs_zero.1 k; omega
 have ea := limb0m (x := a) (by omega)
 have en := limb0m (x := n) (by omega)
 refine LM.enter tt Tryz.func80 rfl rfl rfl (by kernel_rfl) rfl rfl rfl (fun o mo h => by rw [h.2]; rfl) fun F _ => ?_
 have hv1 : V.w 1001 mg 1 ((limbs a).getD 0 default) ((limbs n).getD 0 default) = V.w 1001 mg 1 (a % M256) (n % M256) := by rw [ea, en]
 exact wk trueW trueW trueW
theorem View_no (c inp : List UInt8) (g mg : Nat) (l : List UInt8) (sg : Nat) (st : List Nat) (pc : Nat) (o : List UInt8) (a n : Nat) (hn : n % M256 = 0) : LM Tryz.prog 80 [.p 1000 3, wV a, wV n] (frM c inp g mg l sg st pc o) fun q m' => q = .ret .nil ∧ m' = frM c inp g mg l sg st pc o := by
 have hla := limbs_len a
 have hln := limbs_len n
 have hz2 : limbs n = List.replicate 4 0 := limbs_zero.2 hn
 refine LM.enter tt Tryz.func80 rfl rfl rfl (by kernel_rfl) rfl rfl rfl (fun o mo h => by rw [h.2]; rfl) fun F _ => ?_
 exact wk trueW trueW trueW
set_option maxHeartbeats 1000000 in
theorem Grow (c inp : List UInt8) (g mg : Nat) (l : List UInt8) (sg : Nat) (st : List Nat) (pc : Nat) (o : List UInt8) (size mg' : Nat) (l' : List UInt8) (hL : l.length ≤ 4096) (h : size ≤ 4096) (he : My.grow ⟨mg, l⟩ size = ⟨mg', l'⟩) : LM Tryz.prog 79 [.p 1000 3, .k (.int .i64 (size : Int))] (frM c inp g mg l sg st pc o) fun q m => q = .ret (uK (My.price l.length size)) ∧ m = frM c inp g mg' l' sg st pc o := by
 have c1 := Price c inp g mg l sg st pc o size hL h
 generalize My.price l.length size = p at *
 unfold My.grow at he
 by_cases hs : size ≤ l.length
 ·rw [if_pos hs] at he
  cases he
  refine LM.enter tt Tryz.func79 rfl rfl rfl (by kernel_rfl) rfl rfl rfl (fun o mo h => by rw [h.2]; rfl) fun F _ => ?_
  exact wk trueW trueW trueW
 ·rw [if_neg hs] at he
  cases he
  have hlen : l.length + (size - l.length) = (l ++ List.replicate (size - l.length) 0).length := by simp
  refine LM.enter tt Tryz.func79 rfl rfl rfl (by kernel_rfl) rfl rfl rfl (fun o mo h => by rw [h.2]; rfl) fun F _ => ?_
  exact wk trueW trueW trueW
end Fw
end Lf
end Go.Proofs.YtffaobngpbaklaaGreatDoor
