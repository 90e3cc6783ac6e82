/- A part of the proof: texts joined. -/
import Derived.Test.YtffaobngpbaklaaGreatDoorQ776f27a
set_option linter.unusedVariables false
set_option linter.unusedSimpArgs false
namespace Go.Proofs.YtffaobngpbaklaaGreatDoor
namespace Lf
def rotl (x : UInt64) (k : Nat) : UInt64 := UInt64.ofNat ((x.toNat * 2 ^ k % 2 ^ 64) ||| (x.toNat / 2 ^ (64 - k)))
theorem rotl_toNat (x : UInt64) (k : Nat) : (rotl x k).toNat = ((x.toNat * 2 ^ k % 2 ^ 64) ||| (x.toNat / 2 ^ (64 - k))) := by
 unfold rotl
 rw [UInt64.toNat_ofNat']
 exact Nat.mod_eq_of_lt (Nat.or_lt_two_pow (Nat.mod_lt _ (Nat.two_pow_pos 64)) (Nat.lt_of_le_of_lt (Nat.div_le_self _ _) x.toNat_lt))
def qmix (s : List UInt64) (i : Nat) : UInt64 := rotl (s.getD ((i + 1) % 8) default ^^^ s.getD ((i + 5) % 8) default) (5 * i + 3)
def qstep (s : List UInt64) (i : Nat) : List UInt64 := s.set i (s.getD i default + qmix s i)
def kr (r : Nat) : UInt64 := UInt64.ofNat ((r + 1) * 11400714819323198485 % 2 ^ 64)
def qkey (s : List UInt64) (r : Nat) : List UInt64 := s.set 0 (s.getD 0 default ^^^ kr r)
def qround (s : List UInt64) (r : Nat) : List UInt64 := iter qstep (qkey s r) 8
def mixQ (s : List UInt64) : List UInt64 := iter qround s 12
def ustep (s : List UInt64) (k : Nat) : List UInt64 := s.set (7 - k) (s.getD (7 - k) default - qmix s (7 - k))
def uround (s : List UInt64) (k : Nat) : List UInt64 := qkey (iter ustep s 8) (11 - k)
def unmixQ (s : List UInt64) : List UInt64 := iter uround s 12
theorem qstep_len (s : List UInt64) (i : Nat) : (qstep s i).length = s.length := by simp [qstep]
theorem qkey_len (s : List UInt64) (i : Nat) : (qkey s i).length = s.length := by simp [qkey]
theorem iter_len {f : List UInt64 → Nat → List UInt64} (hf : ∀ s i, (f s i).length = s.length) (s : List UInt64) (n : Nat) : (iter f s n).length = s.length := iter_inv (p := fun t => t.length = s.length) (fun t i h => (hf t i).trans h) rfl n
theorem qround_len (s : List UInt64) (i : Nat) : (qround s i).length = s.length := (iter_len qstep_len _ 8).trans (qkey_len s i)
theorem mixQ_len (s : List UInt64) : (mixQ s).length = s.length := iter_len qround_len s 12
theorem mixQ_eq (s : List UInt64) : mixQ s = iter qround s 12 := rfl
attribute [irreducible] mixQ unmixQ rotl
end Lf
open Go.RowKit Rg
set_option linter.unusedVariables false
set_option maxRecDepth 100000
set_option linter.unusedSimpArgs false
namespace Lf
namespace Sp
theorem Rotl (x : UInt64) (k : Nat) (h : k < 64) : LF Tryz.prog 114 [qK x, .k (.int .i64 (k : Int))] (fun _ => qK (rotl x k)) none := by
 have h1 : IntKind.u64.wrap ((k : Nat) : Int) = ((k : Nat) : Int) := wrap_u64 (by omega)
 have h2 : IntKind.u64.wrap (((BitVec.ofInt IntKind.u64.bits (k : Int) &&& BitVec.ofInt IntKind.u64.bits (63 : Int)).toNat : Nat) : Int) = ((k : Nat) : Int) := by
  have := and_u64 (a := k) (b := 63) (by omega) (by decide)
  rw [show (k &&& 63) = k from by rw [show (63 : Nat) = 2 ^ 6 - 1 from rfl, Nat.and_two_pow_sub_one_eq_mod]; exact Nat.mod_eq_of_lt h] at this
  exact this
 have h3 := x.toNat_lt
 have h4 : x.toNat * 2 ^ k % 2 ^ 64 < 18446744073709551616 := Nat.mod_lt _ (by decide)
 have h5 : x.toNat / 2 ^ (64 - k) < 18446744073709551616 := Nat.lt_of_le_of_lt (Nat.div_le_self _ _) h3
 unfold qK
 rw [rotl_toNat]
 refine LFx.mk' tt Tryz.func114 rfl rfl rfl (by kernel_rfl) rfl rfl fun F => ?_
 exact wk trueW trueW trueW
set_option maxHeartbeats 1000000 in
theorem Mix (s : List UInt64) (hs : s.length = 8) : LF Tryz.prog 108 [.a (s.map qK)] (fun _ => .a ((mixQ s).map qK)) none := by
 have c1 := Rotl
 refine LFx.mk' tt Tryz.func108 rfl rfl rfl (by kernel_rfl) rfl rfl fun F => ?_
 refine wk ?_ trueW trueW
 refine LC.loop2 (fun r S => [(1, .p 1 0), (2, .p 2 0), (5, .k (.int .i64 (r : Int)))]) (fun r S => [(1, .b (S.map qK)), (2, .b (List.replicate 8 (.k (.int .u64 0))))]) (fun r S => r ≤ 12 ∧ S = iter qround s r) (12 - ·) 0 s ⟨by omega, rfl⟩ ⟨rfl, rfl, rfl, trivial⟩ ⟨rfl, rfl, trivial⟩ rfl rfl (by first | exact rfl | (simp only [V.cells, refsE, refsM, V.refs, V.refs.go, refs_mapq, refs_mapb, refs_append, Bool.and_true, Bool.true_and, Bool.and_self, keysOk]; done) | (simp only [V.cells, refsE, refsM, V.refs, V.refs.go, refs_mapq, refs_mapb, refs_append, Bool.and_true, Bool.true_and, Bool.and_self]; exact rfl)) fun r S ⟨hr, hS⟩ => ?_
 have hl : S.length = 8 := hS ▸ (iter_len qround_len s r).trans hs
 rcases Nat.lt_or_ge r 12 with h | h
 ·refine wk ?_ trueW trueW
  refine LC.loop2 (fun i S => [(1, .p 1 0), (2, .p 2 0), (5, .k (.int .i64 (r : Int))), (16, .k (.int .i64 (i : Int)))]) (fun i S => [(1, .b (S.map qK)), (2, .b (List.replicate 8 (.k (.int .u64 0))))]) (fun i S2 => i ≤ 8 ∧ S2 = iter qstep (qkey S r) i) (8 - ·) 0 (qkey S r) ⟨by omega, rfl⟩ ⟨rfl, rfl, rfl, rfl, trivial⟩ ⟨rfl, rfl, trivial⟩ rfl rfl (by first | exact rfl | (simp only [V.cells, refsE, refsM, V.refs, V.refs.go, refs_mapq, refs_mapb, refs_append, Bool.and_true, Bool.true_and, Bool.and_self, keysOk]; done) | (simp only [V.cells, refsE, refsM, V.refs, V.refs.go, refs_mapq, refs_mapb, refs_append, Bool.and_true, Bool.true_and, Bool.and_self]; exact rfl)) fun i S2 ⟨hi, hS2⟩ => ?_
  have hl2 : S2.length = 8 := hS2 ▸ (iter_len qstep_len _ i).trans ((qkey_len _ _).trans hl)
  rcases Nat.lt_or_ge i 8 with h2 | h2
  ·have hok : i + 1 ≤ 8 ∧ qstep S2 i = iter qstep (qkey S r) (i + 1) := ⟨by omega, by rw [iter, ← hS2]⟩
   exact wk trueW trueW trueW
  ·obtain rfl : i = 8 := by omega
   have hok : r + 1 ≤ 12 ∧ S2 = iter qround s (r + 1) := ⟨by omega, by rw [iter, ← hS]; exact hS2⟩
   exact wk trueW trueW trueW
 ·obtain rfl : r = 12 := by omega
  have hv : V.a (S.map qK) = V.a ((mixQ s).map qK) := congrArg (fun z => V.a (List.map qK z)) (hS.trans (mixQ_eq s).symm)
  exact wk trueW trueW trueW
end Sp
end Lf
open Go.RowKit Rg
set_option linter.unusedVariables false
set_option maxRecDepth 100000
namespace Lf
def readStep (l : List UInt8) (x : UInt64) (i : Nat) : UInt64 := x ||| UInt64.ofNat ((l.getD i default).toNat * 2 ^ (8 * i) % 2 ^ 64)
def readQ (l : List UInt8) : UInt64 := iter (readStep l) 0 8
def wr8 (x : UInt64) (off : Nat) (L : List UInt8) (i : Nat) : List UInt8 := L.set (off + i) (UInt8.ofNat (x.toNat / 2 ^ (8 * i)))
structure Hs where
 st : List UInt64
 pt : List UInt8
 n : Nat
structure Hs.ok (h : Hs) : Prop where
 st : h.st.length = 8
 pt : h.pt.length = 32
 n : h.n < 32
def Hs.cells (h : Hs) : List V := h.st.map qK ++ (h.pt.map bK ++ [.k (.int .i64 ((h.n : Nat) : Int))])
def xorIn (P : List UInt8) (S : List UInt64) (j : Nat) : List UInt64 := S.set j (S.getD j default ^^^ readQ ((P.drop (8 * j)).take (32 - 8 * j)))
def takeH (h : Hs) (x : UInt8) : Hs :=
 if h.n + 1 < 32 then ⟨h.st, h.pt.set h.n x, h.n + 1⟩ else ⟨mixQ (iter (xorIn (h.pt.set h.n x)) h.st 4), h.pt.set h.n x, 0⟩
theorem xorIn_len (P : List UInt8) (S : List UInt64) (j : Nat) : (xorIn P S j).length = S.length := by simp [xorIn]
theorem takeH_ok {h : Hs} (k : h.ok) (x : UInt8) : (takeH h x).ok := by
 unfold takeH
 split
 ·exact ⟨k.st, by simp [k.pt], by assumption⟩
 ·exact ⟨by rw [mixQ_len, iter_len (xorIn_len _)]; exact k.st, by simp [k.pt], Nat.zero_lt_succ _⟩
theorem readQ_eq (l : List UInt8) : readQ l = iter (readStep l) 0 8 := rfl
attribute [irreducible] readQ takeH
theorem refs_cells (m : Mem) (h : Hs) : V.refs.go m h.cells = true := by
 simp only [Hs.cells, refs_append, refs_mapq, refs_mapb]; rfl
namespace Sp
set_option maxHeartbeats 1000000 in
theorem read (l : List UInt8) (hl : 8 ≤ l.length) : LF Tryz.prog 107 [.s none (l.map bK)] (fun _ => qK (readQ l)) none := by
 refine LFx.mk' tt Tryz.func107 rfl rfl rfl (by kernel_rfl) rfl rfl fun F => ?_
 refine wk ?_ trueW trueW
 refine LC.loop2 (fun i x => [(0, .s none (l.map bK)), (3, qK x), (5, .k (.int .i64 ((i : Nat) : Int)))]) (fun i x => []) (fun i x => i ≤ 8 ∧ x = iter (readStep l) 0 i) ((8 - ·)) (0) (0) ⟨by omega, rfl⟩ ⟨rfl, rfl, rfl, trivial⟩ trivial rfl rfW rfW ?_
 rintro i x ⟨hi, hx⟩
 rcases Nat.lt_or_ge i 8 with h | h
 ·have hok : i + 1 ≤ 8 ∧ readStep l x i = iter (readStep l) 0 (i + 1) := ⟨by omega, by rw [iter, ← hx]⟩
  have hb := (l.getD i default).toNat_lt
  exact wk trueW trueW trueW
 ·obtain rfl : i = 8 := by omega
  have hv : qK x = qK (readQ l) := congrArg qK (hx.trans (readQ_eq l).symm)
  exact wk trueW trueW trueW
set_option maxHeartbeats 1000000 in
theorem take1 (h : Hs) (k : h.ok) (x : UInt8) : LM Tryz.prog 102 [.p 1000 0, bK x] [(1000, .b h.cells)] fun o m => o = .ret (.t []) ∧ m = [(1000, .b (takeH h x).cells)] := by
 have c1 := read
 obtain ⟨S, P, n⟩ := h
 obtain ⟨h1, h2, h3⟩ := k
 simp only at h1 h2 h3
 generalize hT : takeH ⟨S, P, n⟩ x = T
 simp only [Hs.cells]
 refine LM.enter tt Tryz.func102 rfl rfl rfl (by kernel_rfl) rfl rfl rfl (fun o mo h => by rw [h.2]; rfl) fun F _ => ?_
 rcases Nat.lt_or_ge (n + 1) 32 with h | (h : 32 ≤ n + 1)
 ·have e : T = ⟨S, P.set n x, n + 1⟩ := hT.symm.trans (by unfold takeH; exact if_pos h)
  clear hT
  subst e
  exact wk trueW trueW trueW
 ·have e : T = ⟨mixQ (iter (xorIn (P.set n x)) S 4), P.set n x, 0⟩ := hT.symm.trans (by unfold takeH; exact if_neg (by show ¬ n + 1 < 32; omega))
  clear hT
  obtain rfl : n = 31 := by omega
  refine wk ?_ trueW trueW
  refine LC.loop2 (fun j S' => [(0, .p 1000 0), (29, .k (.int .i64 ((j : Nat) : Int)))]) (fun j S' => [(1000, .b (S'.map qK ++ ((P.set 31 x).map bK ++ [.k (.int .i64 0)])))]) (fun j S' => j ≤ 4 ∧ S' = iter (xorIn (P.set 31 x)) S j) ((4 - ·)) (0) (S) ⟨by omega, rfl⟩ ⟨rfl, rfl, trivial⟩ ⟨rfl, trivial⟩ rfl rfW rfW ?_
  rintro j S' ⟨hj, hS⟩
  have hl : S'.length = 8 := by rw [hS, iter_len (xorIn_len _)]; exact h1
  rcases Nat.lt_or_ge j 4 with h | h
  ·have hok : j + 1 ≤ 4 ∧ xorIn (P.set 31 x) S' j = iter (xorIn (P.set 31 x)) S (j + 1) := ⟨by omega, by rw [iter, ← hS]⟩
   clear hS e
   exact wk trueW trueW trueW
  ·obtain rfl : j = 4 := by omega
   have hm := mixQ_len S'
   have c2 := Mix S' hl
   rw [← hS] at e
   clear hS
   generalize mixQ S' = M at e hm c2
   subst e
   exact wk trueW trueW trueW
theorem take (h : Hs) (k : h.ok) (x : UInt8) (i : Nat) : LM Tryz.prog 102 [.p i 0, bK x] [(i, .b h.cells)] fun o m => o = .ret (.t []) ∧ m = [(i, .b (takeH h x).cells)] :=
 LM.box1 (fun k => [.p k 0, bK x]) (fun _ _ => rfl) (refs_cells _ h) (refs_cells _ _) rfl (take1 h k x) i
end Sp
def writeH (h : Hs) (b : List UInt8) : Hs := b.foldl takeH h
theorem writeH_ok {h : Hs} (k : h.ok) : ∀ b, (writeH h b).ok := by
 intro b
 induction b generalizing h with
 | nil => exact k
 | cons x r ih => exact ih (takeH_ok k x)
theorem foldl_take {α β : Type} [Inhabited α] {f : β → α → β} {s : β} {l : List α} {k : Nat} (h : k < l.length) : (l.take (k + 1)).foldl f s = f ((l.take k).foldl f s) (l.getD k default) := by
 rw [List.take_succ_eq_append_getElem h, List.foldl_append, List.getD_eq_getElem?_getD, List.getElem?_eq_getElem h]; rfl
attribute [irreducible] writeH Hs.cells
namespace Sp
set_option maxHeartbeats 1000000 in
theorem Write1 (h : Hs) (k : h.ok) (l : List UInt8) (hl : l.length < 1073741824) : LM Tryz.prog 94 [.p 1000 0, .s none (l.map bK)] [(1000, .b h.cells)] fun o m => o = .ret (.t []) ∧ m = [(1000, .b (writeH h l).cells)] := by
 have c1 := take
 refine LM.enter tt Tryz.func94 rfl rfl rfl (by kernel_rfl) rfl rfl rfl (fun o mo h => by rw [h.2]; rfl) fun F _ => ?_
 have hrf := refs_cells
 refine wk ?_ trueW trueW
 refine LC.loop2 (fun j H => [(0, .p 1000 0), (6, .s none (l.map bK)), (7, .k (.int .i64 ((l.length : Nat) : Int))), (8, .k (.int .i64 ((j : Nat) : Int)))]) (fun j H => [(1000, .b H.cells)]) (fun j H => j ≤ l.length ∧ H = writeH h (l.take j)) ((l.length - ·)) (0) (h) ⟨by omega, by simp [writeH]⟩ ⟨rfl, rfl, rfl, rfl, trivial⟩ ⟨rfl, trivial⟩ rfl rfW rfW ?_
 rintro j H ⟨hj, hH⟩
 have hk : H.ok := hH ▸ writeH_ok k _
 rcases Nat.lt_or_ge j l.length with h2 | h2
 ·have hok : j + 1 ≤ l.length ∧ takeH H (l.getD j default) = writeH h (l.take (j + 1)) := ⟨by omega, by rw [hH]; unfold writeH; exact (foldl_take h2).symm⟩
  exact wk trueW trueW trueW
 ·obtain rfl : j = l.length := by omega
  rw [List.take_length] at hH
  subst hH
  exact wk trueW trueW trueW
theorem Write (h : Hs) (k : h.ok) (l : List UInt8) (hl : l.length < 1073741824) (i : Nat) : LM Tryz.prog 94 [.p i 0, .s none (l.map bK)] [(i, .b h.cells)] fun o m => o = .ret (.t []) ∧ m = [(i, .b (writeH h l).cells)] :=
 LM.box1 (fun k => [.p k 0, .s none (l.map bK)]) (fun _ _ => rfl) (refs_cells _ h) (refs_cells _ _) rfl (Write1 h k l hl) i
end Sp
end Lf
open Go.RowKit Rg
set_option linter.unusedVariables false
set_option maxRecDepth 100000
namespace Lf
theorem wr8_len (x : UInt64) (off : Nat) (L : List UInt8) (i : Nat) : (wr8 x off L i).length = L.length := by simp [wr8]
theorem iterB_len {f : List UInt8 → Nat → List UInt8} (hf : ∀ s i, (f s i).length = s.length) (s : List UInt8) (n : Nat) : (iter f s n).length = s.length := iter_inv (p := fun t => t.length = s.length) (fun t i h => (hf t i).trans h) rfl n
def wrQ (st : List UInt64) (L : List UInt8) (j : Nat) : List UInt8 := iter (wr8 (st.getD j default) (8 * j)) L 8
theorem wrQ_len (st : List UInt64) (L : List UInt8) (j : Nat) : (wrQ st L j).length = L.length := iterB_len (wr8_len _ _) _ _
def outQ (st : List UInt64) : List UInt8 := iter (wrQ st) (List.replicate 32 0) 4
theorem outQ_eq (st : List UInt64) : outQ st = iter (wrQ st) (List.replicate 32 0) 4 := rfl
theorem wrQ_eq (st : List UInt64) (L : List UInt8) (j : Nat) : iter (wr8 (st.getD j default) (8 * j)) L 8 = wrQ st L j := rfl
theorem outQ_len (st : List UInt64) : (outQ st).length = 32 := by unfold outQ; rw [iterB_len (wrQ_len st)]; rfl
def padN (h : Hs) (i : Nat) : Hs := iter (fun h _ => takeH h 0) h i
def padH (h : Hs) : Hs := padN (takeH h 1) (31 - (takeH h 1).n)
def sumH (h : Hs) : List UInt8 := outQ (takeH (padH h) 128).st
def hs0 : Hs := ⟨List.replicate 8 0, List.replicate 32 0, 0⟩
theorem hs0_ok : hs0.ok := ⟨rfl, rfl, Nat.zero_lt_succ _⟩
def sumB (b : List UInt8) : List UInt8 := sumH (writeH hs0 b)
theorem sumB_len (b : List UInt8) : (sumB b).length = 32 := by unfold sumB sumH; exact outQ_len _
theorem padN_ok {h : Hs} (k : h.ok) (i : Nat) : (padN h i).ok := iter_inv (f := fun h _ => takeH h 0) (p := Hs.ok) (fun s _ h => takeH_ok h 0) k i
theorem cells_len {h : Hs} (k : h.ok) : h.cells.length = 41 := by simp [Hs.cells, k.st, k.pt]
theorem takeH_n {h : Hs} (x : UInt8) (hn : h.n + 1 < 32) : (takeH h x).n = h.n + 1 := by unfold takeH; rw [if_pos hn]
theorem ld_n {ti : TI} {h : Hs} (k : h.ok) (hd : ti.d.agg = false) : ti.part h.cells 40 = some (.k (.int .i64 ((h.n : Nat) : Int))) := by
 unfold TI.part Hs.cells
 rw [hd]
 simp [k.st, k.pt]
theorem ld_st {ti : TI} {h : Hs} {j : Nat} (k : h.ok) (hd : ti.d.agg = false) (hj : j < 8) : ti.part h.cells j = some (qK (h.st.getD j default)) := by
 unfold TI.part Hs.cells
 rw [hd]
 have := k.st
 simp [List.getElem?_append_left, show j < h.st.length by omega, List.getD_eq_getElem?_getD]
attribute [irreducible] outQ padN padH sumH sumB wrQ
namespace Sp
set_option maxHeartbeats 1000000 in
theorem write8 (x : UInt64) (L : List UInt8) (off n cap : Nat) (hn : 8 ≤ n) (hL : off + 8 ≤ L.length) (i : Nat) : LM Tryz.prog 103 [.sb i off n cap, qK x] [(i, .b (L.map bK))] fun o m => o = .ret (.t []) ∧ m = [(i, .b ((iter (wr8 x off) L 8).map bK))] := by
 refine LM.box1 (fun k => [.sb k off n cap, qK x]) (fun _ _ => rfl) (refs_mapb _ _) (refs_mapb _ _) rfl ?_ i
 refine LM.enter tt Tryz.func103 rfl rfl rfl (by kernel_rfl) rfl rfl rfl (fun o mo h => by rw [h.2]; rfl) fun F _ => ?_
 refine wk ?_ trueW trueW
 refine LC.loop2 (fun j M => [(0, .sb 1000 off n cap), (1, qK x), (5, .k (.int .i64 ((j : Nat) : Int)))]) (fun j M => [(1000, .b (M.map bK))]) (fun j M => j ≤ 8 ∧ M = iter (wr8 x off) L j) ((8 - ·)) (0) (L) ⟨by omega, rfl⟩ ⟨rfl, rfl, rfl, trivial⟩ ⟨rfl, trivial⟩ rfl rfW rfW ?_
 rintro j M ⟨hj, hM⟩
 have hl : M.length = L.length := by rw [hM, iterB_len (wr8_len _ _)]
 rcases Nat.lt_or_ge j 8 with h | h
 ·have hok : j + 1 ≤ 8 ∧ wr8 x off M j = iter (wr8 x off) L (j + 1) := ⟨by omega, by rw [iter, ← hM]⟩
  clear hM
  have h3 := x.toNat_lt
  unfold qK
  exact wk trueW trueW trueW
 ·obtain rfl : j = 8 := by omega
  rw [← hM]
  exact wk trueW trueW trueW
set_option maxHeartbeats 1000000 in
theorem HSum (h : Hs) (k : h.ok) : LF Tryz.prog 95 [.a h.cells] (fun _ => .a ((sumH h).map bK)) none := by
 have c1 := fun (h : Hs) (k : h.ok) (i : Nat) => take h k 1 i
 have c2 := fun (h : Hs) (k : h.ok) (i : Nat) => take h k 0 i
 have c3 := fun (h : Hs) (k : h.ok) (i : Nat) => take h k 128 i
 have c4 := write8
 have hrf := refs_cells
 have ld1 := @ld_n
 have ld2 := @ld_st
 have k1 := takeH_ok k 1
 generalize hs : sumH h = R
 unfold sumH padH at hs
 refine LFx.mk' tt Tryz.func95 rfl rfl rfl (by kernel_rfl) rfl rfl fun F => ?_
 refine wk ?_ trueW trueW
 generalize hH : takeH h 1 = H1 at hs k1
 have hn := k1.n
 refine LC.loop2 (fun i H => [(1, .p 1 0), (2, .p 2 0)]) (fun i H => [(1, .b H.cells), (2, .b ((List.replicate 32 0).map bK))]) (fun i H => i ≤ 31 - H1.n ∧ H = padN H1 i ∧ H.n = H1.n + i) ((31 - H1.n - ·)) (0) (H1) ⟨by omega, by unfold padN; rfl, rfl⟩ ⟨rfl, rfl, trivial⟩ ⟨rfl, rfl, trivial⟩ rfl rfW rfW ?_
 rintro i H ⟨hi, hH2, hn2⟩
 have k2 : H.ok := hH2 ▸ padN_ok k1 i
 rcases Nat.lt_or_ge i (31 - H1.n) with h2 | h2
 ·have hok : i + 1 ≤ 31 - H1.n ∧ takeH H 0 = padN H1 (i + 1) ∧ (takeH H 0).n = H1.n + (i + 1) := ⟨by omega, by rw [hH2]; unfold padN; rfl, by rw [takeH_n 0 (by omega)]; omega⟩
  clear hH2
  exact wk trueW trueW trueW
 ·obtain rfl : i = 31 - H1.n := by omega
  rw [← hH2] at hs
  clear hH2
  have k3 := takeH_ok k2 128
  refine wk ?_ trueW trueW
  generalize takeH H 128 = H3 at hs k3
  refine LC.loop2 (fun j L => [(1, .p 1 0), (2, .p 2 0), (3, .p 3 0), (11, .k (.int .i64 ((j : Nat) : Int)))]) (fun j L => [(1, .b H3.cells), (2, .b ((List.replicate 32 0).map bK)), (3, .b (L.map bK))]) (fun j L => j ≤ 4 ∧ L = iter (wrQ H3.st) (List.replicate 32 0) j) ((4 - ·)) (0) ((List.replicate 32 0)) ⟨by omega, rfl⟩ ⟨rfl, rfl, rfl, rfl, trivial⟩ ⟨rfl, rfl, rfl, trivial⟩ rfl rfW rfW ?_
  rintro j L ⟨hj, hL⟩
  have hl : L.length = 32 := by rw [hL, iterB_len (wrQ_len _)]; rfl
  rcases Nat.lt_or_ge j 4 with h4 | h4
  ·have hok : j + 1 ≤ 4 ∧ iter (wr8 (H3.st.getD j default) (8 * j)) L 8 = iter (wrQ H3.st) (List.replicate 32 0) (j + 1) := ⟨by omega, (wrQ_eq _ _ _).trans (by rw [iter, ← hL])⟩
   clear hL
   exact wk trueW trueW trueW
  ·obtain rfl : j = 4 := by omega
   have hv1 : V.a (L.map bK) = V.a (R.map bK) := congrArg (fun z => V.a (List.map bK z)) (hL.trans ((outQ_eq _).symm.trans hs))
   clear hL
   exact wk trueW trueW trueW
end Sp
end Lf
open Go.RowKit Rg
set_option linter.unusedVariables false
set_option maxRecDepth 100000
namespace Lf
def padZ (b : List UInt8) (i : Nat) : List UInt8 := b ++ [1] ++ List.replicate i 0
def padB (b : List UInt8) : List UInt8 := padZ b (31 - (b.length + 1) % 32) ++ [128]
attribute [irreducible] padB padZ
theorem hs0_cells : hs0.cells = (List.replicate 8 (0 : UInt64)).map qK ++ ((List.replicate 32 (0 : UInt8)).map bK ++ [.k (.int .i64 0)]) := by unfold Hs.cells; rfl
namespace Sp
set_option maxHeartbeats 1000000 in
theorem Sum (l : List UInt8) (hl : l.length < 1073741824) : LF Tryz.prog 86 [.s none (l.map bK)] (fun _ => .a ((sumB l).map bK)) none := by
 have c1 := Write hs0 hs0_ok l hl
 rw [hs0_cells] at c1
 have k1 := writeH_ok hs0_ok l
 have e : sumB l = sumH (writeH hs0 l) := by unfold sumB; rfl
 rw [e]
 generalize writeH hs0 l = H at c1 k1
 have l2 : (sumH H).length = 32 := by unfold sumH; exact outQ_len _
 have c2 := HSum H k1
 generalize sumH H = R at c2 l2
 have hrf := refs_cells
 have hlen := cells_len k1
 refine LFx.mk' tt Tryz.func86 rfl rfl rfl (by kernel_rfl) rfl rfl fun F => ?_
 exact wk trueW trueW trueW
end Sp
end Lf
end Go.Proofs.YtffaobngpbaklaaGreatDoor
