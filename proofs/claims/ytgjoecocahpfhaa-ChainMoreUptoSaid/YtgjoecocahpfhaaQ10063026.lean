/- A part of the proof: texts joined. -/
import Derived.Test.YtgjoecocahpfhaaProg
import Derived.Shelf.Bits.Mul64
import Derived.Test.YtgjoecocahpfhaaQ956f4a1
namespace Go.Proofs.Ytgjoecocahpfhaa
namespace Lf
def rotl (x : UInt64) (k : Nat) : UInt64 := UInt64.ofNat ((x.toNat * 2 ^ k % 2 ^ 64) ||| (x.toNat / 2 ^ (64 - k)))
theorem rotl_toNat (x : UInt64) (k : Nat) : (rotl x k).toNat = ((x.toNat * 2 ^ k % 2 ^ 64) ||| (x.toNat / 2 ^ (64 - k))) := by
  unfold rotl
  rw [UInt64.toNat_ofNat']
  exact Nat.mod_eq_of_lt (Nat.or_lt_two_pow (Nat.mod_lt _ (Nat.two_pow_pos 64)) (Nat.lt_of_le_of_lt (Nat.div_le_self _ _) x.toNat_lt))
def qmix (s : List UInt64) (i : Nat) : UInt64 := rotl (s.getD ((i + 1) % 8) default ^^^ s.getD ((i + 5) % 8) default) (5 * i + 3)
def qstep (s : List UInt64) (i : Nat) : List UInt64 := s.set i (s.getD i default + qmix s i)
def kr (r : Nat) : UInt64 := UInt64.ofNat ((r + 1) * 11400714819323198485 % 2 ^ 64)
def qkey (s : List UInt64) (r : Nat) : List UInt64 := s.set 0 (s.getD 0 default ^^^ kr r)
def qround (s : List UInt64) (r : Nat) : List UInt64 := iter qstep (qkey s r) 8
def mixQ (s : List UInt64) : List UInt64 := iter qround s 12
def ustep (s : List UInt64) (k : Nat) : List UInt64 := s.set (7 - k) (s.getD (7 - k) default - qmix s (7 - k))
def uround (s : List UInt64) (k : Nat) : List UInt64 := qkey (iter ustep s 8) (11 - k)
def unmixQ (s : List UInt64) : List UInt64 := iter uround s 12
theorem qstep_len (s : List UInt64) (i : Nat) : (qstep s i).length = s.length := by simp [qstep]
theorem qkey_len (s : List UInt64) (i : Nat) : (qkey s i).length = s.length := by simp [qkey]
theorem iter_len {f : List UInt64 → Nat → List UInt64} (hf : ∀ s i, (f s i).length = s.length) (s : List UInt64) (n : Nat) : (iter f s n).length = s.length := iter_inv (p := fun t => t.length = s.length) (fun t i h => (hf t i).trans h) rfl n
theorem qround_len (s : List UInt64) (i : Nat) : (qround s i).length = s.length := (iter_len qstep_len _ 8).trans (qkey_len s i)
theorem mixQ_len (s : List UInt64) : (mixQ s).length = s.length := iter_len qround_len s 12
theorem mixQ_eq (s : List UInt64) : mixQ s = iter qround s 12 := rfl
attribute [irreducible] mixQ unmixQ rotl
end Lf
open Go.RowKit Rg
set_option linter.unusedVariables false
set_option maxRecDepth 100000
namespace Lf
namespace Sp
theorem Rotl (x : UInt64) (k : Nat) (h : k < 64) : LF Try.prog 94 [qK x, .k (.int .i64 (k : Int))] (fun _ => qK (rotl x k)) none := by
  have h1 : IntKind.u64.wrap ((k : Nat) : Int) = ((k : Nat) : Int) := wrap_u64 (by omega)
  have h2 : IntKind.u64.wrap (((BitVec.ofInt IntKind.u64.bits (k : Int) &&& BitVec.ofInt IntKind.u64.bits (63 : Int)).toNat : Nat) : Int) = ((k : Nat) : Int) := by
    have := and_u64 (a := k) (b := 63) (by omega) (by decide)
    rw [show (k &&& 63) = k from by rw [show (63 : Nat) = 2 ^ 6 - 1 from rfl, Nat.and_two_pow_sub_one_eq_mod]; exact Nat.mod_eq_of_lt h] at this
    exact this
  have h3 := x.toNat_lt
  have h4 : x.toNat * 2 ^ k % 2 ^ 64 < 18446744073709551616 := Nat.mod_lt _ (by decide)
  have h5 : x.toNat / 2 ^ (64 - k) < 18446744073709551616 := Nat.lt_of_le_of_lt (Nat.div_le_self _ _) h3
  unfold qK
  rw [rotl_toNat]
  refine LFx.mk' tt Try.func94 rfl rfl rfl (by kernel_rfl) rfl rfl fun F => ?_
  exact wk trueW trueW trueW
set_option maxHeartbeats 1000000 in
theorem Mix (s : List UInt64) (hs : s.length = 8) : LF Try.prog 89 [.a (s.map qK)] (fun _ => .a ((mixQ s).map qK)) none := by
  have c1 := Rotl
  refine LFx.mk' tt Try.func89 rfl rfl rfl (by kernel_rfl) rfl rfl fun F => ?_
  refine wk ?_ trueW trueW
  refine LC.loop2 (fun r S => [(1, .p 1 0), (2, .p 2 0), (5, .k (.int .i64 (r : Int)))]) (fun r S => [(1, .b (S.map qK)), (2, .b (List.replicate 8 (.k (.int .u64 0))))]) (fun r S => r ≤ 12 ∧ S = iter qround s r) (12 - ·) 0 s ⟨by omega, rfl⟩ ⟨rfl, rfl, rfl, trivial⟩ ⟨rfl, rfl, trivial⟩ rfl rfl (by first | exact rfl | (simp only [V.cells, refsE, refsM, V.refs, V.refs.go, refs_mapq, refs_mapb, refs_append, Bool.and_true, Bool.true_and, Bool.and_self, keysOk]; done) | (simp only [V.cells, refsE, refsM, V.refs, V.refs.go, refs_mapq, refs_mapb, refs_append, Bool.and_true, Bool.true_and, Bool.and_self]; exact rfl)) fun r S ⟨hr, hS⟩ => ?_
  have hl : S.length = 8 := hS ▸ (iter_len qround_len s r).trans hs
  rcases Nat.lt_or_ge r 12 with h | h
  · refine wk ?_ trueW trueW
    refine LC.loop2 (fun i S => [(1, .p 1 0), (2, .p 2 0), (5, .k (.int .i64 (r : Int))), (16, .k (.int .i64 (i : Int)))]) (fun i S => [(1, .b (S.map qK)), (2, .b (List.replicate 8 (.k (.int .u64 0))))]) (fun i S2 => i ≤ 8 ∧ S2 = iter qstep (qkey S r) i) (8 - ·) 0 (qkey S r) ⟨by omega, rfl⟩ ⟨rfl, rfl, rfl, rfl, trivial⟩ ⟨rfl, rfl, trivial⟩ rfl rfl (by first | exact rfl | (simp only [V.cells, refsE, refsM, V.refs, V.refs.go, refs_mapq, refs_mapb, refs_append, Bool.and_true, Bool.true_and, Bool.and_self, keysOk]; done) | (simp only [V.cells, refsE, refsM, V.refs, V.refs.go, refs_mapq, refs_mapb, refs_append, Bool.and_true, Bool.true_and, Bool.and_self]; exact rfl)) fun i S2 ⟨hi, hS2⟩ => ?_
    have hl2 : S2.length = 8 := hS2 ▸ (iter_len qstep_len _ i).trans ((qkey_len _ _).trans hl)
    rcases Nat.lt_or_ge i 8 with h2 | h2
    · have hok : i + 1 ≤ 8 ∧ qstep S2 i = iter qstep (qkey S r) (i + 1) := ⟨by omega, by rw [iter, ← hS2]⟩
      exact wk trueW trueW trueW
    · obtain rfl : i = 8 := by omega
      have hok : r + 1 ≤ 12 ∧ S2 = iter qround s (r + 1) := ⟨by omega, by rw [iter, ← hS]; exact hS2⟩
      exact wk trueW trueW trueW
  · obtain rfl : r = 12 := by omega
    have hv : V.a (S.map qK) = V.a ((mixQ s).map qK) := congrArg (fun z => V.a (List.map qK z)) (hS.trans (mixQ_eq s).symm)
    exact wk trueW trueW trueW
end Sp
end Lf
open Go.RowKit Rg
set_option linter.unusedVariables false
set_option maxRecDepth 100000
namespace Lf
def readStep (l : List UInt8) (x : UInt64) (i : Nat) : UInt64 := x ||| UInt64.ofNat ((l.getD i default).toNat * 2 ^ (8 * i) % 2 ^ 64)
def readQ (l : List UInt8) : UInt64 := iter (readStep l) 0 8
def wr8 (x : UInt64) (off : Nat) (L : List UInt8) (i : Nat) : List UInt8 := L.set (off + i) (UInt8.ofNat (x.toNat / 2 ^ (8 * i)))
structure Hs where
  st : List UInt64
  pt : List UInt8
  n : Nat
structure Hs.ok (h : Hs) : Prop where
  st : h.st.length = 8
  pt : h.pt.length = 32
  n : h.n < 32
def Hs.cells (h : Hs) : List V := h.st.map qK ++ (h.pt.map bK ++ [.k (.int .i64 ((h.n : Nat) : Int))])
def xorIn (P : List UInt8) (S : List UInt64) (j : Nat) : List UInt64 := S.set j (S.getD j default ^^^ readQ ((P.drop (8 * j)).take (32 - 8 * j)))
def takeH (h : Hs) (x : UInt8) : Hs :=
  if h.n + 1 < 32 then ⟨h.st, h.pt.set h.n x, h.n + 1⟩ else ⟨mixQ (iter (xorIn (h.pt.set h.n x)) h.st 4), h.pt.set h.n x, 0⟩
theorem xorIn_len (P : List UInt8) (S : List UInt64) (j : Nat) : (xorIn P S j).length = S.length := by simp [xorIn]
theorem takeH_ok {h : Hs} (k : h.ok) (x : UInt8) : (takeH h x).ok := by
  unfold takeH
  split
  · exact ⟨k.st, by simp [k.pt], by assumption⟩
  · exact ⟨by rw [mixQ_len, iter_len (xorIn_len _)]; exact k.st, by simp [k.pt], Nat.zero_lt_succ _⟩
theorem readQ_eq (l : List UInt8) : readQ l = iter (readStep l) 0 8 := rfl
attribute [irreducible] readQ takeH
theorem refs_cells (m : Mem) (h : Hs) : V.refs.go m h.cells = true := by
  simp only [Hs.cells, refs_append, refs_mapq, refs_mapb]; rfl
namespace Sp
set_option maxHeartbeats 1000000 in
theorem read (l : List UInt8) (hl : 8 ≤ l.length) : LF Try.prog 88 [.s none (l.map bK)] (fun _ => qK (readQ l)) none := by
  refine LFx.mk' tt Try.func88 rfl rfl rfl (by kernel_rfl) rfl rfl fun F => ?_
  refine wk ?_ trueW trueW
  refine LC.loop2 (fun i x => [(0, .s none (l.map bK)), (3, qK x), (5, .k (.int .i64 ((i : Nat) : Int)))]) (fun i x => []) (fun i x => i ≤ 8 ∧ x = iter (readStep l) 0 i) ((8 - ·)) (0) (0) ⟨by omega, rfl⟩ ⟨rfl, rfl, rfl, trivial⟩ trivial rfl rfW rfW ?_
  rintro i x ⟨hi, hx⟩
  rcases Nat.lt_or_ge i 8 with h | h
  · have hok : i + 1 ≤ 8 ∧ readStep l x i = iter (readStep l) 0 (i + 1) := ⟨by omega, by rw [iter, ← hx]⟩
    have hb := (l.getD i default).toNat_lt
    exact wk trueW trueW trueW
  · obtain rfl : i = 8 := by omega
    have hv : qK x = qK (readQ l) := congrArg qK (hx.trans (readQ_eq l).symm)
    exact wk trueW trueW trueW
set_option maxHeartbeats 1000000 in
theorem take1 (h : Hs) (k : h.ok) (x : UInt8) : LM Try.prog 75 [.p 1000 0, bK x] [(1000, .b h.cells)] fun o m => o = .ret (.t []) ∧ m = [(1000, .b (takeH h x).cells)] := by
  have c1 := read
  obtain ⟨S, P, n⟩ := h
  obtain ⟨h1, h2, h3⟩ := k
  simp only at h1 h2 h3
  generalize hT : takeH ⟨S, P, n⟩ x = T
  simp only [Hs.cells]
  refine LM.enter tt Try.func75 rfl rfl rfl (by kernel_rfl) rfl rfl rfl (fun o mo h => by rw [h.2]; rfl) fun F _ => ?_
  rcases Nat.lt_or_ge (n + 1) 32 with h | (h : 32 ≤ n + 1)
  · have e : T = ⟨S, P.set n x, n + 1⟩ := hT.symm.trans (by unfold takeH; exact if_pos h)
    clear hT
    subst e
    exact wk trueW trueW trueW
  · have e : T = ⟨mixQ (iter (xorIn (P.set n x)) S 4), P.set n x, 0⟩ := hT.symm.trans (by unfold takeH; exact if_neg (by show ¬ n + 1 < 32; omega))
    clear hT
    obtain rfl : n = 31 := by omega
    refine wk ?_ trueW trueW
    refine LC.loop2 (fun j S' => [(0, .p 1000 0), (29, .k (.int .i64 ((j : Nat) : Int)))]) (fun j S' => [(1000, .b (S'.map qK ++ ((P.set 31 x).map bK ++ [.k (.int .i64 0)])))]) (fun j S' => j ≤ 4 ∧ S' = iter (xorIn (P.set 31 x)) S j) ((4 - ·)) (0) (S) ⟨by omega, rfl⟩ ⟨rfl, rfl, trivial⟩ ⟨rfl, trivial⟩ rfl rfW rfW ?_
    rintro j S' ⟨hj, hS⟩
    have hl : S'.length = 8 := by rw [hS, iter_len (xorIn_len _)]; exact h1
    rcases Nat.lt_or_ge j 4 with h | h
    · have hok : j + 1 ≤ 4 ∧ xorIn (P.set 31 x) S' j = iter (xorIn (P.set 31 x)) S (j + 1) := ⟨by omega, by rw [iter, ← hS]⟩
      clear hS e
      exact wk trueW trueW trueW
    · obtain rfl : j = 4 := by omega
      have hm := mixQ_len S'
      have c2 := Mix S' hl
      rw [← hS] at e
      clear hS
      generalize mixQ S' = M at e hm c2
      subst e
      exact wk trueW trueW trueW
theorem take (h : Hs) (k : h.ok) (x : UInt8) (i : Nat) : LM Try.prog 75 [.p i 0, bK x] [(i, .b h.cells)] fun o m => o = .ret (.t []) ∧ m = [(i, .b (takeH h x).cells)] :=
  LM.box1 (fun k => [.p k 0, bK x]) (fun _ _ => rfl) (refs_cells _ h) (refs_cells _ _) rfl (take1 h k x) i
end Sp
def writeH (h : Hs) (b : List UInt8) : Hs := b.foldl takeH h
theorem writeH_ok {h : Hs} (k : h.ok) : ∀ b, (writeH h b).ok := by
  intro b
  induction b generalizing h with
  | nil => exact k
  | cons x r ih => exact ih (takeH_ok k x)
theorem foldl_take {α β : Type} [Inhabited α] {f : β → α → β} {s : β} {l : List α} {k : Nat} (h : k < l.length) : (l.take (k + 1)).foldl f s = f ((l.take k).foldl f s) (l.getD k default) := by
  rw [List.take_succ_eq_append_getElem h, List.foldl_append, List.getD_eq_getElem?_getD, List.getElem?_eq_getElem h]; rfl
attribute [irreducible] writeH Hs.cells
namespace Sp
set_option maxHeartbeats 1000000 in
theorem Write1 (h : Hs) (k : h.ok) (l : List UInt8) (hl : l.length < 1073741824) : LM Try.prog 51 [.p 1000 0, .s none (l.map bK)] [(1000, .b h.cells)] fun o m => o = .ret (.t []) ∧ m = [(1000, .b (writeH h l).cells)] := by
  have c1 := take
  refine LM.enter tt Try.func51 rfl rfl rfl (by kernel_rfl) rfl rfl rfl (fun o mo h => by rw [h.2]; rfl) fun F _ => ?_
  have hrf := refs_cells
  refine wk ?_ trueW trueW
  refine LC.loop2 (fun j H => [(0, .p 1000 0), (6, .s none (l.map bK)), (7, .k (.int .i64 ((l.length : Nat) : Int))), (8, .k (.int .i64 ((j : Nat) : Int)))]) (fun j H => [(1000, .b H.cells)]) (fun j H => j ≤ l.length ∧ H = writeH h (l.take j)) ((l.length - ·)) (0) (h) ⟨by omega, by simp [writeH]⟩ ⟨rfl, rfl, rfl, rfl, trivial⟩ ⟨rfl, trivial⟩ rfl rfW rfW ?_
  rintro j H ⟨hj, hH⟩
  have hk : H.ok := hH ▸ writeH_ok k _
  rcases Nat.lt_or_ge j l.length with h2 | h2
  · have hok : j + 1 ≤ l.length ∧ takeH H (l.getD j default) = writeH h (l.take (j + 1)) := ⟨by omega, by rw [hH]; unfold writeH; exact (foldl_take h2).symm⟩
    exact wk trueW trueW trueW
  · obtain rfl : j = l.length := by omega
    rw [List.take_length] at hH
    subst hH
    exact wk trueW trueW trueW
theorem Write (h : Hs) (k : h.ok) (l : List UInt8) (hl : l.length < 1073741824) (i : Nat) : LM Try.prog 51 [.p i 0, .s none (l.map bK)] [(i, .b h.cells)] fun o m => o = .ret (.t []) ∧ m = [(i, .b (writeH h l).cells)] :=
  LM.box1 (fun k => [.p k 0, .s none (l.map bK)]) (fun _ _ => rfl) (refs_cells _ h) (refs_cells _ _) rfl (Write1 h k l hl) i
end Sp
end Lf
open Go.RowKit Rg
set_option linter.unusedVariables false
set_option maxRecDepth 100000
namespace Lf
theorem wr8_len (x : UInt64) (off : Nat) (L : List UInt8) (i : Nat) : (wr8 x off L i).length = L.length := by simp [wr8]
theorem iterB_len {f : List UInt8 → Nat → List UInt8} (hf : ∀ s i, (f s i).length = s.length) (s : List UInt8) (n : Nat) : (iter f s n).length = s.length := iter_inv (p := fun t => t.length = s.length) (fun t i h => (hf t i).trans h) rfl n
def wrQ (st : List UInt64) (L : List UInt8) (j : Nat) : List UInt8 := iter (wr8 (st.getD j default) (8 * j)) L 8
theorem wrQ_len (st : List UInt64) (L : List UInt8) (j : Nat) : (wrQ st L j).length = L.length := iterB_len (wr8_len _ _) _ _
def outQ (st : List UInt64) : List UInt8 := iter (wrQ st) (List.replicate 32 0) 4
theorem outQ_eq (st : List UInt64) : outQ st = iter (wrQ st) (List.replicate 32 0) 4 := rfl
theorem wrQ_eq (st : List UInt64) (L : List UInt8) (j : Nat) : iter (wr8 (st.getD j default) (8 * j)) L 8 = wrQ st L j := rfl
theorem outQ_len (st : List UInt64) : (outQ st).length = 32 := by unfold outQ; rw [iterB_len (wrQ_len st)]; rfl
def padN (h : Hs) (i : Nat) : Hs := iter (fun h _ => takeH h 0) h i
def padH (h : Hs) : Hs := padN (takeH h 1) (31 - (takeH h 1).n)
def sumH (h : Hs) : List UInt8 := outQ (takeH (padH h) 128).st
def hs0 : Hs := ⟨List.replicate 8 0, List.replicate 32 0, 0⟩
theorem hs0_ok : hs0.ok := ⟨rfl, rfl, Nat.zero_lt_succ _⟩
def sumB (b : List UInt8) : List UInt8 := sumH (writeH hs0 b)
theorem sumB_len (b : List UInt8) : (sumB b).length = 32 := by unfold sumB sumH; exact outQ_len _
theorem padN_ok {h : Hs} (k : h.ok) (i : Nat) : (padN h i).ok := iter_inv (f := fun h _ => takeH h 0) (p := Hs.ok) (fun s _ h => takeH_ok h 0) k i
theorem cells_len {h : Hs} (k : h.ok) : h.cells.length = 41 := by simp [Hs.cells, k.st, k.pt]
theorem takeH_n {h : Hs} (x : UInt8) (hn : h.n + 1 < 32) : (takeH h x).n = h.n + 1 := by unfold takeH; rw [if_pos hn]
theorem ld_n {ti : TI} {h : Hs} (k : h.ok) (hd : ti.d.agg = false) : ti.part h.cells 40 = some (.k (.int .i64 ((h.n : Nat) : Int))) := by
  unfold TI.part Hs.cells
  rw [hd]
  simp [k.st, k.pt]
theorem ld_st {ti : TI} {h : Hs} {j : Nat} (k : h.ok) (hd : ti.d.agg = false) (hj : j < 8) : ti.part h.cells j = some (qK (h.st.getD j default)) := by
  unfold TI.part Hs.cells
  rw [hd]
  have := k.st
  simp [List.getElem?_append_left, show j < h.st.length by omega, List.getD_eq_getElem?_getD]
attribute [irreducible] outQ padN padH sumH sumB wrQ
namespace Sp
set_option maxHeartbeats 1000000 in
theorem write8 (x : UInt64) (L : List UInt8) (off n cap : Nat) (hn : 8 ≤ n) (hL : off + 8 ≤ L.length) (i : Nat) : LM Try.prog 76 [.sb i off n cap, qK x] [(i, .b (L.map bK))] fun o m => o = .ret (.t []) ∧ m = [(i, .b ((iter (wr8 x off) L 8).map bK))] := by
  refine LM.box1 (fun k => [.sb k off n cap, qK x]) (fun _ _ => rfl) (refs_mapb _ _) (refs_mapb _ _) rfl ?_ i
  refine LM.enter tt Try.func76 rfl rfl rfl (by kernel_rfl) rfl rfl rfl (fun o mo h => by rw [h.2]; rfl) fun F _ => ?_
  refine wk ?_ trueW trueW
  refine LC.loop2 (fun j M => [(0, .sb 1000 off n cap), (1, qK x), (5, .k (.int .i64 ((j : Nat) : Int)))]) (fun j M => [(1000, .b (M.map bK))]) (fun j M => j ≤ 8 ∧ M = iter (wr8 x off) L j) ((8 - ·)) (0) (L) ⟨by omega, rfl⟩ ⟨rfl, rfl, rfl, trivial⟩ ⟨rfl, trivial⟩ rfl rfW rfW ?_
  rintro j M ⟨hj, hM⟩
  have hl : M.length = L.length := by rw [hM, iterB_len (wr8_len _ _)]
  rcases Nat.lt_or_ge j 8 with h | h
  · have hok : j + 1 ≤ 8 ∧ wr8 x off M j = iter (wr8 x off) L (j + 1) := ⟨by omega, by rw [iter, ← hM]⟩
    clear hM
    have h3 := x.toNat_lt
    unfold qK
    exact wk trueW trueW trueW
  · obtain rfl : j = 8 := by omega
    rw [← hM]
    exact wk trueW trueW trueW
set_option maxHeartbeats 1000000 in
theorem HSum (h : Hs) (k : h.ok) : LF Try.prog 52 [.a h.cells] (fun _ => .a ((sumH h).map bK)) none := by
  have c1 := fun (h : Hs) (k : h.ok) (i : Nat) => take h k 1 i
  have c2 := fun (h : Hs) (k : h.ok) (i : Nat) => take h k 0 i
  have c3 := fun (h : Hs) (k : h.ok) (i : Nat) => take h k 128 i
  have c4 := write8
  have hrf := refs_cells
  have ld1 := @ld_n
  have ld2 := @ld_st
  have k1 := takeH_ok k 1
  generalize hs : sumH h = R
  unfold sumH padH at hs
  refine LFx.mk' tt Try.func52 rfl rfl rfl (by kernel_rfl) rfl rfl fun F => ?_
  refine wk ?_ trueW trueW
  generalize hH : takeH h 1 = H1 at hs k1
  have hn := k1.n
  refine LC.loop2 (fun i H => [(1, .p 1 0), (2, .p 2 0)]) (fun i H => [(1, .b H.cells), (2, .b ((List.replicate 32 0).map bK))]) (fun i H => i ≤ 31 - H1.n ∧ H = padN H1 i ∧ H.n = H1.n + i) ((31 - H1.n - ·)) (0) (H1) ⟨by omega, by unfold padN; rfl, rfl⟩ ⟨rfl, rfl, trivial⟩ ⟨rfl, rfl, trivial⟩ rfl rfW rfW ?_
  rintro i H ⟨hi, hH2, hn2⟩
  have k2 : H.ok := hH2 ▸ padN_ok k1 i
  rcases Nat.lt_or_ge i (31 - H1.n) with h2 | h2
  · have hok : i + 1 ≤ 31 - H1.n ∧ takeH H 0 = padN H1 (i + 1) ∧ (takeH H 0).n = H1.n + (i + 1) := ⟨by omega, by rw [hH2]; unfold padN; rfl, by rw [takeH_n 0 (by omega)]; omega⟩
    clear hH2
    exact wk trueW trueW trueW
  · obtain rfl : i = 31 - H1.n := by omega
    rw [← hH2] at hs
    clear hH2
    have k3 := takeH_ok k2 128
    refine wk ?_ trueW trueW
    generalize takeH H 128 = H3 at hs k3
    refine LC.loop2 (fun j L => [(1, .p 1 0), (2, .p 2 0), (3, .p 3 0), (11, .k (.int .i64 ((j : Nat) : Int)))]) (fun j L => [(1, .b H3.cells), (2, .b ((List.replicate 32 0).map bK)), (3, .b (L.map bK))]) (fun j L => j ≤ 4 ∧ L = iter (wrQ H3.st) (List.replicate 32 0) j) ((4 - ·)) (0) ((List.replicate 32 0)) ⟨by omega, rfl⟩ ⟨rfl, rfl, rfl, rfl, trivial⟩ ⟨rfl, rfl, rfl, trivial⟩ rfl rfW rfW ?_
    rintro j L ⟨hj, hL⟩
    have hl : L.length = 32 := by rw [hL, iterB_len (wrQ_len _)]; rfl
    rcases Nat.lt_or_ge j 4 with h4 | h4
    · have hok : j + 1 ≤ 4 ∧ iter (wr8 (H3.st.getD j default) (8 * j)) L 8 = iter (wrQ H3.st) (List.replicate 32 0) (j + 1) := ⟨by omega, (wrQ_eq _ _ _).trans (by rw [iter, ← hL])⟩
      clear hL
      exact wk trueW trueW trueW
    · obtain rfl : j = 4 := by omega
      have hv1 : V.a (L.map bK) = V.a (R.map bK) := congrArg (fun z => V.a (List.map bK z)) (hL.trans ((outQ_eq _).symm.trans hs))
      clear hL
      exact wk trueW trueW trueW
end Sp
end Lf
open Go.RowKit Rg
set_option linter.unusedVariables false
set_option maxRecDepth 100000
namespace Lf
def padZ (b : List UInt8) (i : Nat) : List UInt8 := b ++ [1] ++ List.replicate i 0
def padB (b : List UInt8) : List UInt8 := padZ b (31 - (b.length + 1) % 32) ++ [128]
attribute [irreducible] padB padZ
theorem hs0_cells : hs0.cells = (List.replicate 8 (0 : UInt64)).map qK ++ ((List.replicate 32 (0 : UInt8)).map bK ++ [.k (.int .i64 0)]) := by unfold Hs.cells; rfl
namespace Sp
set_option maxHeartbeats 1000000 in
theorem Sum (l : List UInt8) (hl : l.length < 1073741824) : LF Try.prog 36 [.s none (l.map bK)] (fun _ => .a ((sumB l).map bK)) none := by
  have c1 := Write hs0 hs0_ok l hl
  rw [hs0_cells] at c1
  have k1 := writeH_ok hs0_ok l
  have e : sumB l = sumH (writeH hs0 l) := by unfold sumB; rfl
  rw [e]
  generalize writeH hs0 l = H at c1 k1
  have l2 : (sumH H).length = 32 := by unfold sumH; exact outQ_len _
  have c2 := HSum H k1
  generalize sumH H = R at c2 l2
  have hrf := refs_cells
  have hlen := cells_len k1
  refine LFx.mk' tt Try.func36 rfl rfl rfl (by kernel_rfl) rfl rfl fun F => ?_
  exact wk trueW trueW trueW
end Sp
end Lf
namespace Lf
end Lf
namespace Lf
namespace Sr
end Sr
end Lf
namespace Lf
namespace Sr
end Sr
end Lf
namespace Lf
namespace Sr
end Sr
end Lf
namespace Ps
def pos (B : Nat) : List Nat → Nat
  | [] => 0
  | a :: l => a * B ^ l.length + pos B l
def NL (l : List Nat) : Prop := l.head? ≠ some 0
def lexN : List Nat → List Nat → Bool
  | a :: l, b :: m => decide (a < b) || (decide (a = b) && lexN l m)
  | [], _ :: _ => true
  | _, [] => false
theorem pos_append (B : Nat) (l m : List Nat) : pos B (l ++ m) = pos B l * B ^ m.length + pos B m := by
  induction l with
  | nil => simp [pos]
  | cons a l ih =>
    simp only [List.cons_append, pos, ih, List.length_append, Nat.pow_add, Nat.add_mul, Nat.mul_assoc, Nat.add_assoc]
theorem pos_lt {B : Nat} {l : List Nat} (h : ∀ a ∈ l, a < B) : pos B l < B ^ l.length := by
  induction l with
  | nil => simp [pos]
  | cons a l ih =>
    have h1 := ih fun x hx => h x (by simp [hx])
    have h2 : (a + 1) * B ^ l.length ≤ B * B ^ l.length := Nat.mul_le_mul_right _ (h a (by simp))
    simp only [pos, List.length_cons, Nat.pow_succ]
    rw [Nat.mul_comm (B ^ l.length) B]
    rw [Nat.add_mul, Nat.one_mul] at h2
    omega
theorem pos_ge {B : Nat} {a : Nat} {l : List Nat} (h : a ≠ 0) : B ^ l.length ≤ pos B (a :: l) := by
  simp only [pos]
  have : 1 * B ^ l.length ≤ a * B ^ l.length := Nat.mul_le_mul_right _ (by omega)
  omega
theorem pos_lex {B : Nat} : ∀ {l m : List Nat}, l.length = m.length → (∀ a ∈ l, a < B) → (∀ a ∈ m, a < B) → (pos B l < pos B m ↔ lexN l m = true)
  | [], [], _, _, _ => by simp [pos, lexN]
  | a :: l, b :: m, hl, h1, h2 => by
    have hl' : l.length = m.length := by simpa using hl
    have ih := pos_lex hl' (fun x hx => h1 x (by simp [hx])) (fun x hx => h2 x (by simp [hx]))
    have k1 := pos_lt (B := B) (l := l) fun x hx => h1 x (by simp [hx])
    have k2 := pos_lt (B := B) (l := m) fun x hx => h2 x (by simp [hx])
    simp only [pos, lexN, Bool.or_eq_true, Bool.and_eq_true, decide_eq_true_eq, ← ih]
    rw [← hl'] at k2 ⊢
    generalize B ^ l.length = p at *
    rcases Nat.lt_trichotomy a b with h | h | h
    · have := Nat.mul_le_mul_right p (Nat.succ_le_of_lt h)
      rw [Nat.succ_mul] at this
      exact ⟨fun _ => .inl h, fun _ => by omega⟩
    · subst h
      exact ⟨fun k => .inr ⟨rfl, by omega⟩, fun k => by rcases k with k | k <;> omega⟩
    · have := Nat.mul_le_mul_right p (Nat.succ_le_of_lt h)
      rw [Nat.succ_mul] at this
      exact ⟨fun k => by omega, fun k => by rcases k with k | k <;> omega⟩
  | [], _ :: _, hl, _, _ => by simp at hl
  | _ :: _, [], hl, _, _ => by simp at hl
theorem pos_len {B : Nat} {l m : List Nat} (hB : 0 < B) (hl : l.length < m.length) (h1 : ∀ a ∈ l, a < B) (hm : NL m) : pos B l < pos B m := by
  cases m with
  | nil => simp at hl
  | cons b m =>
    have h2 : b ≠ 0 := fun e => hm (by simp [e])
    have := pos_ge (B := B) (l := m) h2
    have k := pos_lt h1
    have : B ^ l.length ≤ B ^ m.length := Nat.pow_le_pow_right hB (by simp at hl; omega)
    omega
theorem pos_order {B : Nat} {l m : List Nat} (hB : 0 < B) (h1 : ∀ a ∈ l, a < B) (h2 : ∀ a ∈ m, a < B) (k1 : NL l) (k2 : NL m) : pos B l < pos B m ↔ l.length < m.length ∨ (l.length = m.length ∧ lexN l m = true) := by
  rcases Nat.lt_trichotomy l.length m.length with h | h | h
  · exact ⟨fun _ => .inl h, fun _ => pos_len hB h h1 k2⟩
  · rw [pos_lex h h1 h2]
    exact ⟨fun k => .inr ⟨h, k⟩, fun k => by rcases k with k | k <;> first | omega | exact k.2⟩
  · have := pos_len hB h h2 k1
    exact ⟨fun k => by omega, fun k => by omega⟩
theorem lexN_eq : ∀ {l m : List Nat}, l.length = m.length → lexN l m = false → lexN m l = false → l = m
  | [], [], _, _, _ => rfl
  | a :: l, b :: m, hl, h1, h2 => by
    simp only [lexN, Bool.or_eq_false_iff, Bool.and_eq_false_iff, decide_eq_false_iff_not] at h1 h2
    obtain rfl : a = b := by omega
    rw [lexN_eq (l := l) (m := m) (by simpa using hl) (by rcases h1.2 with h | h; exact absurd rfl h; exact h) (by rcases h2.2 with h | h; exact absurd rfl h; exact h)]
  | [], _ :: _, hl, _, _ => by simp at hl
  | _ :: _, [], hl, _, _ => by simp at hl
theorem pos_inj {B : Nat} {l m : List Nat} (hB : 0 < B) (h1 : ∀ a ∈ l, a < B) (h2 : ∀ a ∈ m, a < B) (k1 : NL l) (k2 : NL m) (h : pos B l = pos B m) : l = m := by
  have e1 := pos_order hB h1 h2 k1 k2
  have e2 := pos_order hB h2 h1 k2 k1
  have n1 : ¬ (l.length < m.length ∨ (l.length = m.length ∧ lexN l m = true)) := fun h' => by have := e1.2 h'; omega
  have n2 : ¬ (m.length < l.length ∨ (m.length = l.length ∧ lexN m l = true)) := fun h' => by have := e2.2 h'; omega
  have hl : l.length = m.length := by omega
  refine lexN_eq hl ?_ ?_
  · rw [← Bool.not_eq_true]; exact fun h' => n1 (.inr ⟨hl, h'⟩)
  · rw [← Bool.not_eq_true]; exact fun h' => n2 (.inr ⟨hl.symm, h'⟩)
def strip (l : List UInt8) : List UInt8 := l.dropWhile (· == 0)
def nat8 (l : List UInt8) : List Nat := l.map UInt8.toNat
theorem nat8_lt (l : List UInt8) : ∀ a ∈ nat8 l, a < 256 := fun a ha => by
  obtain ⟨x, _, rfl⟩ := List.mem_map.1 ha
  exact x.toNat_lt
theorem nat8_inj {l m : List UInt8} (h : nat8 l = nat8 m) : l = m := by
  induction l generalizing m with
  | nil => cases m with
    | nil => rfl
    | cons _ _ => simp [nat8] at h
  | cons a l ih => cases m with
    | nil => simp [nat8] at h
    | cons b m =>
      simp only [nat8, List.map_cons, List.cons.injEq] at h
      rw [UInt8.toNat_inj.1 h.1, ih h.2]
theorem strip_nl (l : List UInt8) : NL (nat8 (strip l)) := by
  unfold strip
  induction l with
  | nil => simp [NL, nat8]
  | cons a l ih =>
    rw [List.dropWhile_cons]
    split
    · exact ih
    · rename_i h
      intro e
      simp only [nat8, List.map_cons, List.head?_cons, Option.some.injEq] at e
      apply h
      have : a = 0 := UInt8.toNat_inj.1 (by rw [e]; rfl)
      simp [this]
theorem strip_pos (B : Nat) (l : List UInt8) : pos B (nat8 (strip l)) = pos B (nat8 l) := by
  unfold strip
  induction l with
  | nil => rfl
  | cons a l ih =>
    rw [List.dropWhile_cons]
    split
    · rename_i h
      have : a = 0 := by simpa using h
      subst this
      rw [ih]
      simp [nat8, pos]
    · rfl
theorem nl_iff (l : List UInt8) : NL (nat8 l) ↔ l.head? ≠ some 0 := by
  cases l with
  | nil => simp [NL, nat8]
  | cons a l =>
    simp only [NL, nat8, List.map_cons, List.head?_cons, ne_eq, Option.some.injEq]
    constructor
    · intro h e; apply h; rw [e]; rfl
    · intro h e; apply h; exact UInt8.toNat_inj.1 (by rw [e]; rfl)
theorem strip_id {l : List UInt8} (h : l.head? ≠ some 0) : strip l = l := by
  cases l with
  | nil => rfl
  | cons a l =>
    unfold strip
    rw [List.dropWhile_cons, if_neg]
    intro e
    apply h
    have : a = 0 := by simpa using e
    rw [this]; rfl
def beN (l : List UInt8) : Nat := pos 256 (nat8 l)
theorem beN_strip (l : List UInt8) : beN (strip l) = beN l := strip_pos 256 l
theorem beN_inj {l m : List UInt8} (k1 : l.head? ≠ some 0) (k2 : m.head? ≠ some 0) (h : beN l = beN m) : l = m :=
  nat8_inj (pos_inj (by decide) (nat8_lt l) (nat8_lt m) ((nl_iff l).2 k1) ((nl_iff m).2 k2) h)
theorem strip_head (l : List UInt8) : (strip l).head? ≠ some 0 := (nl_iff _).1 (strip_nl l)
end Ps
open Go.RowKit
namespace Rf
open Rg (noCall noCall_spec np wp_monoQ wpOp_monoQ Closed Closed.step waits waitsB waits_listed nth pick freeW chkS chkT chk planSize nth_of)
structure Ext (F : Nat → Prop) (w w' : World) : Prop where
  size : w.heap.size ≤ w'.heap.size
  block : ∀ k, k < w.heap.size → F k → w'.heap[k]? = w.heap[k]?
theorem Ext.refl {F : Nat → Prop} (w : World) : Ext F w w := ⟨Nat.le_refl _, fun _ _ _ => rfl⟩
theorem Ext.trans {F : Nat → Prop} {a b c : World} (h : Ext F a b) (k : Ext F b c) : Ext F a c := ⟨Nat.le_trans h.size k.size, fun i hi hF => (k.block i (Nat.lt_of_lt_of_le hi h.size) hF).trans (h.block i hi hF)⟩
theorem Ext.of {F : Nat → Prop} {w w' : World} (h : Rg.Ext w w') : Ext F w w' := ⟨h.size, fun k hk _ => h.block k hk⟩
theorem Ext.setCell {F : Nat → Prop} (w : World) (p : Addr) (u : Value) (h : ¬ F p.block) : Ext F w (w.setCell p u) :=
  ⟨by simp, fun k _ hF => Below.heap_setCell w p u k (fun e => h (e ▸ hF))⟩
theorem Ext.setRow {F : Nat → Prop} (w : World) (g : Nat) (cs : Array Value) (h : ¬ F g) : Ext F w (w.setRow g cs) :=
  ⟨by simp, fun k _ hF => setRow_other w g k cs (fun e => h (e ▸ hF))⟩
structure Lt (F : Nat → Prop) (w : World) where
  v : World
  ext : Ext F w v
instance (F : Nat → Prop) (w : World) : Nonempty (Lt F w) := ⟨⟨w, Ext.refl w⟩⟩
def Cls (F : Nat → Prop) (w : World) (w' : World) : Prop := ∃ x : Lt F w, w' = x.v
theorem Cls.mk {F : Nat → Prop} {w w' : World} (h : Ext F w w') : Cls F w w' := ⟨⟨w', h⟩, rfl⟩
@[go_sem] theorem cls_iff (F : Nat → Prop) (w w' : World) : Cls F w w' ↔ ∃ x : Lt F w, w' = x.v := Iff.rfl
theorem Ext.cell {F : Nat → Prop} {w w' : World} (h : Ext F w w') {a : Addr} {v : Value} (hc : w.cell? a = some v) (hF : F a.block) : w'.cell? a = some v := by
  rw [World.cell?_of_block (w := w) (h.block a.block (World.block_lt_of_cell? w a hc) hF)]; exact hc
theorem later {F : Nat → Prop} {w : World} {a : Addr} {v : Value} (hc : w.cell? a = some v) (hF : F a.block) : ∀ x : Lt F w, x.v.cell? a = some v := fun x => x.ext.cell hc hF
section
variable {F : Nat → Prop} {P : Program} {ops : Array Oper} {Q : Exit → Act → World → Prop} {md : Region.Mode}
def Yld (F : Nat → Prop) (P : Program) (ops : Array Oper) (w : World) (o : Oper) (v : Value) (a : Act) : Prop :=
  (Region.wanted o (yielded ops a.tmps) = true ∧ ∀ w', Ext F w w' → (execOp a.eval o).run P w' = .ok (.value v) w' ∨ ((execOp a.eval o).run P w' = .ok .skip w' ∧ v = undef)) ∨
  (Region.wanted o (yielded ops a.tmps) = false ∧ v = undef)
theorem Yld.later {w w1 : World} {o : Oper} {v : Value} {a : Act} (h : Yld F P ops w o v a) (he : Ext F w w1) : Yld F P ops w1 o v a := by
  rcases h with ⟨hw, h⟩ | h
  · exact .inl ⟨hw, fun w' hw' => h w' (he.trans hw')⟩
  · exact .inr h
theorem Yld.of_same {w : World} {o : Oper} {v : Value} {a a' : Act} (hy : Yld F P ops w o v a) (he : execOp a'.eval o = execOp a.eval o)
    (hw : Region.wanted o (yielded ops a'.tmps) = Region.wanted o (yielded ops a.tmps)) : Yld F P ops w o v a' := by
  unfold Yld at *
  rw [he, hw]
  exact hy
theorem Yld.wpOp {w : World} {i : Nat} {o : Oper} {v : Value} {a : Act} (hi : ops[i]? = some o) (hy : Yld F P ops w o v a) {K : Act → World → Prop} (h : K (a.put o.dst v) w) : wpOp P ops Q i K a w := by
  unfold Go.wpOp
  simp only [hi]
  rcases hy with ⟨hw, hv⟩ | ⟨hw, rfl⟩
  · rw [if_pos hw]
    refine .inl ?_
    unfold Oper.wp
    rcases hv w (Ext.refl w) with hx | ⟨hx, rfl⟩
    · rw [hx]; exact h
    · rw [hx]; exact h
  · simp only [hw, Bool.false_eq_true, if_false]; exact h
theorem yld_of_quiet {w : World} {o : Oper} {a : Act} {K : Act → Prop} (hn : noCall o.op = true)
    (h : if Region.wanted o (yielded ops a.tmps) then o.quiet P a (Cls F w) K else K (a.put o.dst undef)) : ∃ v, Yld F P ops w o v a ∧ K (a.put o.dst v) := by
  by_cases hw : Region.wanted o (yielded ops a.tmps) = true
  · simp only [hw, if_true] at h
    obtain ⟨v, h1, h2⟩ := h
    refine ⟨v, .inl ⟨hw, fun w' hw' => ?_⟩, h2⟩
    have h3 := h1 w' (Cls.mk hw')
    unfold Oper.quietAt at h3
    have hne := fun f args w'' => noCall_spec (P := P) hn a.eval w' f args w''
    generalize (execOp a.eval o).run P w' = r at *
    cases r with
    | halt x w'' => simp only [Oper.quietUpon] at h3
    | ok n w'' =>
      cases n <;> simp only [Oper.quietUpon] at h3
      case value u => obtain ⟨rfl, rfl⟩ := h3; exact .inl rfl
      case skip => obtain ⟨rfl, rfl⟩ := h3; exact .inr ⟨rfl, rfl⟩
      case enter f args => exact absurd rfl (hne f args w'')
  · simp only [hw] at h
    exact ⟨undef, .inr ⟨by simpa using hw, rfl⟩, h⟩
def anyE (F : Nat → Prop) (P : Program) (md : Region.Mode) (ops : Array Oper) (Q : Exit → Act → World → Prop) (tl : List Nat) (wb : World) : Nat → Array Bool → Act → World → Prop
  | 0, listed, a, w => Region.ready md ops listed = [] ∧ Q .normal a w
  | fuel + 1, listed, a, w =>
    (Region.ready md ops listed = [] → Q .normal a w) ∧
    ∀ i ∈ Region.ready md ops listed, wpOp P ops (if tl.contains i then Q else np Q) i (fun a' w' => (tl.contains i = false → Ext F wb w') ∧ anyE F P md ops Q tl wb fuel (listed.setIfInBounds i true) a' w') a w
theorem anyE_any {tl : List Nat} {wb : World} : ∀ (fuel : Nat) (listed : Array Bool) (a : Act) (w : World), anyE F P md ops Q tl wb fuel listed a w → wpAny P md ops Q fuel listed a w
  | 0, _, _, _, h => h
  | fuel + 1, _, _, _, h => ⟨h.1, fun i hi => wpOp_monoQ (fun c a w hq => by split at hq; exact hq; exact hq.2) (fun a w hq => by split at hq; exact hq; exact hq.2) (wpOp_mono (fun a' w' h' => anyE_any fuel _ a' w' h'.2) (h.2 i hi))⟩
theorem anyE_base {tl : List Nat} {wb wb' : World} (he : Ext F wb wb') : ∀ (fuel : Nat) (listed : Array Bool) (a : Act) (w : World), anyE F P md ops Q tl wb' fuel listed a w → anyE F P md ops Q tl wb fuel listed a w
  | 0, _, _, _, h => h
  | fuel + 1, _, _, _, h => ⟨h.1, fun i hi => wpOp_mono (fun a' w' h' => ⟨fun ht => he.trans (h'.1 ht), anyE_base he fuel _ a' w' h'.2⟩) (h.2 i hi)⟩
theorem anyE_first {tl : List Nat} {wb : World} {i : Nat} {oi : Oper} {v : Value} {W : Array Nat} (hW : waitsB md ops W = true) (hi : ops[i]? = some oi)
    (hsel : ∀ (j : Nat) (o : Oper) cs b, ops[j]? = some o → o.op ≠ .select cs b) :
    ∀ (fuel : Nat) (listed : Array Bool) (a : Act) (w : World), Closed md ops listed → Ext F wb w →
      (∀ j oj, ops[j]? = some oj → j ≠ i → listed.getD j true = false → waits W j i = true ∨ (oi.apart ops oj = true ∧ tl.contains j = false)) →
      i ∈ Region.ready md ops listed → Yld F P ops wb oi v a →
      anyE F P md ops Q tl wb fuel (listed.setIfInBounds i true) (a.put oi.dst v) w → anyE F P md ops Q tl wb (fuel + 1) listed a w := by
  intro fuel
  induction fuel with
  | zero =>
    intro listed a w hc hwb hfree hr hy H
    refine ⟨fun h => (by rw [h] at hr; cases hr), fun j hj => ?_⟩
    by_cases hji : j = i
    · subst hji; exact (hy.later hwb).wpOp hi ⟨fun _ => hwb, H⟩
    · have := ready_mono hj hji
      rw [H.1] at this
      cases this
  | succ fuel ih =>
    intro listed a w hc hwb hfree hr hy H
    refine ⟨fun h => (by rw [h] at hr; cases hr), fun j hj => ?_⟩
    by_cases hji : j = i
    · subst hji; exact (hy.later hwb).wpOp hi ⟨fun _ => hwb, H⟩
    · have h1 := H.2 j (ready_mono hj hji)
      obtain ⟨hjun, oj, hoj, hall⟩ := mem_ready.1 hj
      have hilt : i < ops.size := (Array.getElem?_eq_some_iff.1 hi).1
      have hiun : listed.getD i false = false := by
        have h0 := (mem_ready.1 hr).1
        rcases Nat.lt_or_ge i listed.size with h' | h'
        · simpa [h'] using h0
        · simp [Array.getElem?_eq_none h']
      have hap : oi.apart ops oj = true ∧ tl.contains j = false := by
        rcases hfree j oj hoj hji hjun with hw | h
        · have := waits_listed hW hc hilt j j oj (Nat.le_refl _) hoj hall hw
          rw [hiun] at this
          cases this
        · exact h
      obtain ⟨p1, p2, p3⟩ := Oper.apart_spec hap.1
      have hsi := fun cs b => hsel i oi cs b hi
      have hsj := fun cs b => hsel j oj cs b hoj
      have keep : ∀ (a : Act), Yld F P ops wb oi v a → ∀ u, Yld F P ops wb oi v (a.put oj.dst u) := fun a hy u =>
        hy.of_same (execOp_put oi hsi a oj.dst u p3) (wanted_put oi a oj.dst u p3)
      have keepD : ∀ d, Yld F P ops wb oi v { a with defers := d :: a.defers } := fun d => hy.of_same rfl rfl
      have hfree' : ∀ k ok, ops[k]? = some ok → k ≠ i → (listed.setIfInBounds j true).getD k true = false → waits W k i = true ∨ (oi.apart ops ok = true ∧ tl.contains k = false) := fun k ok hk hki hun => by
        refine hfree k ok hk hki ?_
        by_cases hjk : j = k
        · subst hjk; exact hjun
        · rw [getD_set_ne true hjk] at hun; exact hun
      have fin : ∀ (a' : Act) (w' : World), Yld F P ops wb oi v a' → Ext F wb w' → anyE F P md ops Q tl wb fuel ((listed.setIfInBounds i true).setIfInBounds j true) (a'.put oi.dst v) w' →
          (True → Ext F wb w') ∧ anyE F P md ops Q tl wb (fuel + 1) (listed.setIfInBounds j true) a' w' := fun a' w' hy' he' h' =>
        ⟨fun _ => he', ih _ a' w' (hc.step hj) he' hfree' (ready_mono hr (Ne.symm hji)) hy' (by rw [Array.setIfInBounds_comm _ _ hji]; exact h')⟩
      rw [hap.2] at h1 ⊢
      simp only [Bool.false_eq_true, if_false] at h1 ⊢
      unfold wpOp at *
      simp only [hoj] at *
      rw [wanted_put oj a oi.dst v p1] at h1
      split
      · rename_i hw
        simp only [hw, if_true] at h1
        rcases h1 with h1 | ⟨hasks, hlets⟩
        case inr => exact .inr ⟨by unfold Oper.asks at *; rw [execOp_put oj hsj a oi.dst v p1] at hasks; exact hasks, hlets⟩
        refine .inl ?_
        unfold Oper.wp at *
        rw [execOp_put oj hsj a oi.dst v p1] at h1
        generalize (execOp a.eval oj).run P w = r at *
        cases r with
        | ok n w' =>
          cases n <;> simp only [Oper.upon] at h1 ⊢
          case value u => exact fin _ _ (keep a hy u) (h1.1 trivial) (by rw [← Act.put_comm a v u p2]; exact h1.2)
          case skip => exact fin _ _ (keep a hy _) (h1.1 trivial) (by rw [← Act.put_comm a v undef p2]; exact h1.2)
          case defer d =>
            refine fin _ _ (keep _ (keepD d) _) (h1.1 trivial) ?_
            rw [← Act.put_comm _ v undef p2, ← Act.put_defers]
            exact h1.2
          case enter f args =>
            refine Calls.mono h1 fun e w'' he => ?_
            cases e with
            | returned u => exact fin _ _ (keep a hy u) (he.1 trivial) (by rw [← Act.put_comm a v u p2]; exact he.2)
            | panicked c => exact absurd rfl (he.1 c)
            | outgrown => exact he
          case row row args => exact Rows.mono h1 fun u w'' he => fin _ _ (keep a hy u) (he.1 trivial) (by rw [← Act.put_comm a v u p2]; exact he.2)
        | halt x w' =>
          cases x <;> simp only [Oper.upon] at h1 ⊢
          case panic u => exact absurd rfl (h1.1 _)
      · rename_i hw
        simp only [hw] at h1
        exact fin _ _ (keep a hy _) (h1.1 trivial) (by rw [← Act.put_comm a v undef p2]; exact h1.2)
def walk (F : Nat → Prop) (P : Program) (ops : Array Oper) (Q : Exit → Act → World → Prop) (tail : List Oper) : List (List Oper × Oper) → List Oper → World → Act → Prop
  | [], last, w, a => wpQuiet P ops (Cls F w) (fun a' => wpList P ops Q tail a' w) last a
  | (S, oc) :: t, last, w, a => wpQuiet P ops (Cls F w) (fun a' => wpList P ops (Exit.then (fun a'' w'' => Ext F w w'' ∧ walk F P ops Q tail t last w'' a'') (fun _ _ _ => False)) [oc] a' w) S a
theorem tail_sound {tl : List Nat} {wb : World} : ∀ (l : List Nat) (listed : Array Bool) (a : Act) (w : World), chkT md ops tl l listed = true → wpList P ops Q (pick ops.toList l) a w →
    anyE F P md ops Q tl wb l.length listed a w
  | [], listed, a, w, hc, h => ⟨by simpa [chkT] using hc, by simpa [pick, wpList] using h⟩
  | i :: l, listed, a, w, hc, h => by
    simp only [chkT, Bool.and_eq_true, beq_iff_eq] at hc
    obtain ⟨⟨hr, ht⟩, hc⟩ := hc
    refine ⟨fun h0 => (by rw [h0] at hr; cases hr), fun j hj => ?_⟩
    rw [hr] at hj
    obtain rfl : j = i := by simpa using hj
    have hmem : j ∈ Region.ready md ops listed := by rw [hr]; simp
    obtain ⟨_, o, ho, _⟩ := mem_ready.1 hmem
    have hn : nth ops.toList j = o := nth_of (by simpa using ho)
    simp only [pick, hn, wpList] at h
    rw [if_pos ht]
    unfold wpOp
    simp only [ho]
    have fin : ∀ a' w', wpList P ops Q (pick ops.toList l) a' w' → (tl.contains j = false → Ext F wb w') ∧ anyE F P md ops Q tl wb l.length (listed.setIfInBounds j true) a' w' :=
      fun a' w' h' => ⟨fun hf => (by rw [ht] at hf; cases hf), tail_sound l _ a' w' hc h'⟩
    split
    · rename_i hw
      rw [if_pos hw] at h
      rcases h with h | h
      · exact .inl (Oper.wp_mono fin h)
      · exact .inr h
    · rename_i hw
      rw [if_neg hw] at h
      exact fin _ _ h
theorem seg_sound {tl : List Nat} {W : Array Nat} {wb : World} (hW : waitsB md ops W = true) (hs : Region.noSelect ops = true) {k : Array Bool → Bool} {n : Nat} {K : Act → Prop}
    (hk : ∀ (listed : Array Bool) (a : Act), Closed md ops listed → k listed = true → K a → anyE F P md ops Q tl wb n listed a wb) :
    ∀ (l : List Nat) (listed : Array Bool) (a : Act), Closed md ops listed → chkS md ops W tl l listed k = true → wpQuiet P ops (Cls F wb) K (pick ops.toList l) a →
      anyE F P md ops Q tl wb (l.length + n) listed a wb
  | [], listed, a, hcl, hc, h => by simpa using hk listed a hcl (by simpa [chkS] using hc) (by simpa [pick, wpQuiet] using h)
  | i :: l, listed, a, hcl, hc, h => by
    simp only [chkS, Bool.and_eq_true] at hc
    obtain ⟨⟨hr, hf⟩, hc⟩ := hc
    have hmem : i ∈ Region.ready md ops listed := by simpa using hr
    obtain ⟨_, o, ho, _⟩ := mem_ready.1 hmem
    have hn : nth ops.toList i = o := nth_of (by simpa using ho)
    simp only [freeW, ho, Bool.and_eq_true, List.all_eq_true, List.mem_range] at hf
    obtain ⟨⟨hnc, htl⟩, hall⟩ := hf
    simp only [pick, hn, wpQuiet] at h
    obtain ⟨v, hy, h'⟩ := yld_of_quiet hnc h
    have := seg_sound hW hs hk l _ _ (hcl.step hmem) hc h'
    rw [List.length_cons, Nat.add_right_comm]
    refine anyE_first hW ho (Region.noSelect_spec hs) _ listed a wb hcl (Ext.refl _) (fun j oj hj hne hun => ?_) hmem hy this
    have h2 := hall j (Array.getElem?_eq_some_iff.1 hj).1
    simp only [hj, Bool.or_eq_true, beq_iff_eq, hne, hun, Bool.false_eq_true, false_or, Bool.and_eq_true, Bool.not_eq_true'] at h2
    exact h2
theorem walk_sound {tl : List Nat} {W : Array Nat} (hW : waitsB md ops W = true) (hs : Region.noSelect ops = true) : ∀ (pl : List (List Nat × Nat)) (last : List Nat) (listed : Array Bool) (a : Act) (w : World),
    Closed md ops listed → chk md ops W tl pl last listed = true → walk F P ops Q (pick ops.toList tl) (pl.map fun x => (pick ops.toList x.1, nth ops.toList x.2)) (pick ops.toList last) w a →
    anyE F P md ops Q tl w (planSize pl last tl) listed a w
  | [], last, listed, a, w, hcl, hc, h => by
    have := seg_sound (P := P) (Q := Q) hW hs (k := chkT md ops tl tl) (n := tl.length) (K := fun a' => wpList P ops Q (pick ops.toList tl) a' w) (wb := w)
      (fun l a' _ hk h' => tail_sound tl l a' w hk h') last listed a hcl (by simpa [chk] using hc) (by simpa [walk] using h)
    simpa [planSize] using this
  | (S, i) :: t, last, listed, a, w, hcl, hc, h => by
    have := seg_sound (P := P) (Q := Q) hW hs (wb := w) (n := planSize t last tl + 1) (tl := tl)
      (k := fun l' => Region.ready md ops l' == [i] && !tl.contains i && chk md ops W tl t last (l'.setIfInBounds i true))
      (K := fun a' => wpList P ops (Exit.then (fun a'' w'' => Ext F w w'' ∧ walk F P ops Q (pick ops.toList tl) (t.map fun x => (pick ops.toList x.1, nth ops.toList x.2)) (pick ops.toList last) w'' a'') (fun _ _ _ => False)) [nth ops.toList i] a' w)
      (fun l a' hcl' hk h' => by
        simp only [Bool.and_eq_true, beq_iff_eq, Bool.not_eq_true'] at hk
        obtain ⟨⟨hr, ht⟩, hc'⟩ := hk
        refine ⟨fun h0 => (by rw [h0] at hr; cases hr), fun j hj => ?_⟩
        rw [hr] at hj
        obtain rfl : j = i := by simpa using hj
        have hmem : j ∈ Region.ready md ops l := by rw [hr]; simp
        obtain ⟨_, o, ho, _⟩ := mem_ready.1 hmem
        have hn : nth ops.toList j = o := nth_of (by simpa using ho)
        rw [ht]
        simp only [Bool.false_eq_true, if_false]
        simp only [hn, wpList, Exit.then] at h'
        have fin : ∀ a'' w'', (Ext F w w'' ∧ walk F P ops Q (pick ops.toList tl) (t.map fun x => (pick ops.toList x.1, nth ops.toList x.2)) (pick ops.toList last) w'' a'') →
            (True → Ext F w w'') ∧ anyE F P md ops Q tl w (planSize t last tl) (l.setIfInBounds j true) a'' w'' := fun a'' w'' hh =>
          ⟨fun _ => hh.1, anyE_base hh.1 _ _ _ _ (walk_sound hW hs t last _ a'' w'' (hcl'.step hmem) hc' hh.2)⟩
        unfold wpOp
        simp only [ho]
        split
        · rename_i hw
          rw [if_pos hw] at h'
          rcases h' with h' | ⟨_, a0, w0, hq⟩
          · refine .inl (wp_monoQ (Q' := Exit.then (fun a'' w'' => Ext F w w'' ∧ walk F P ops Q (pick ops.toList tl) (t.map fun x => (pick ops.toList x.1, nth ops.toList x.2)) (pick ops.toList last) w'' a'') (fun _ _ _ => False)) (fun c a1 w1 hq => hq.elim) (fun a1 w1 hq => hq.elim) (Oper.wp_mono fin h'))
          · exact hq.elim
        · rename_i hw
          rw [if_neg hw] at h'
          exact fin _ _ h') S listed a hcl (by simpa [chk] using hc) (by simpa [walk] using h)
    have e : planSize ((S, i) :: t) last tl = S.length + (planSize t last tl + 1) := by simp [planSize]; omega
    rw [e]
    exact this
theorem region (F : Nat → Prop) {id : Nat} {l : List Oper} {a : Act} {w : World} (pl : List (List Nat × Nat)) (last tl : List Nat) (hm : P.follows .mixedOrders = true)
    (hB : (waitsB .any l.toArray (Region.before l.toArray) && Region.noSelect l.toArray && chk .any l.toArray (Region.before l.toArray) tl pl last (Array.replicate l.length false) && planSize pl last tl == l.length) = true)
    (h : ∀ w', Rg.Ext w w' → walk F P l.toArray Q (pick l tl) (pl.map fun x => (pick l x.1, nth l x.2)) (pick l last) w' a) : (Code.region id l.toArray true).wp P Q a w := by
  simp only [Bool.and_eq_true, beq_iff_eq] at hB
  obtain ⟨⟨⟨hW, hs⟩, hc⟩, hsz⟩ := hB
  refine wp_region_any hm (anyE_any (F := F) (tl := tl) (wb := { w with drawn := w.drawn + 1 }) _ _ _ _ ?_)
  have := walk_sound (F := F) (P := P) (Q := Q) (md := .any) (ops := l.toArray) (tl := tl) hW hs pl last (Array.replicate l.length false) a { w with drawn := w.drawn + 1 } (by
    intro j o _ hl
    exfalso
    simp [Array.getElem?_replicate] at hl
    split at hl <;> simp_all) (by simpa using hc) (by simpa using h _ (Below.drew (Below.refl _ w)))
  rw [hsz] at this
  simpa using this
end
end Rf
open Go.RowKit Rp Rg Ops Mm Ar Wm
namespace Wd
theorem aggW : Agg Try.prog 114 4 := ⟨⟨.array 4 24, by kernel_rfl, rfl⟩, by kernel_rfl⟩
theorem word_small (n : Nat) (h0 : n < m64) : wordA n = #[.int .u64 (n : Int), .int .u64 0, .int .u64 0, .int .u64 0] := by
  simp only [wordA, arr, List.range_succ_eq_map, List.range_zero, List.map_cons, List.map_nil, u64V]
  have e0 : limb n 0 = n := by simp [limb, Nat.mod_eq_of_lt h0]
  have e : ∀ k, limb n (k + 1) = 0 := fun k => by
    unfold limb
    rw [Nat.div_eq_of_lt (Nat.lt_of_lt_of_le h0 (by rw [Nat.pow_succ]; exact Nat.le_mul_of_pos_left _ (pow_pos' k)))]
    simp
  simp [e0, e]
theorem IntW (n : Nat) (hn : n < m64) (w : World) : Calls Try.prog 56 #[.int .u64 (n : Int)] w fun e w' => e = .returned (.agg (wordA n)) ∧ Ext w w' := by
  have hz := word_small n hn
  have HZ := Lib.hid hz
  clear hz
  have s1 := (St.start w).alloc (arr 4 fun _ => .int .u64 0) 114
  have s2 := s1.setRow 0 rfl #[.int .u64 (n : Int), .int .u64 0, .int .u64 0, .int .u64 0]
  go_enter Try.func56, Try.ntmps56
  go_wp2_with (refine stAll aggW (vs := #[.int .u64 (n : Int), .int .u64 0, .int .u64 0, .int .u64 0]) rfl _ _ rfl (by rfl) (by rfl) (s1.at 0 rfl) (by rfl) (by rfl) (by simp [Value.oneCell']) ?_)
  go_wp2
  refine bodyPost_ret (v := .agg _) (ret_cell aggW rfl rfl (s2.at 0 rfl) rfl) rfl ⟨by rw [HZ.out], s2.below⟩
end Wd
namespace Wd
end Wd
open Go.RowKit Rg Wm Ar
namespace Lf
def limbs (x : Nat) : List Nat := [limb x 0, limb x 1, limb x 2, limb x 3]
abbrev wV (x : Nat) : V := .a ((limbs x).map uK)
theorem limbs_len (x : Nat) : (limbs x).length = 4 := rfl
theorem limbs_get (x : Nat) {k : Nat} (h : k < 4) : (limbs x).getD k default = limb x k := by
  match k, h with
  | 0, _ => rfl
  | 1, _ => rfl
  | 2, _ => rfl
  | 3, _ => rfl
theorem wordA_list (x : Nat) : wordA x = #[.int .u64 (limb x 0 : Int), .int .u64 (limb x 1 : Int), .int .u64 (limb x 2 : Int), .int .u64 (limb x 3 : Int)] := rfl
theorem exact_word (x : Nat) : Exact (wV x) (.agg (wordA x)) := by
  rw [wordA_list]
  refine ⟨fun w g => .a rfl (fun u hu => ?_) (fun j u y hj hy => ?_), fun w g y h => ?_⟩
  · obtain ⟨a, _, rfl⟩ := List.mem_map.1 hu; rfl
  · match j with
    | 0 => simp [limbs] at hj hy; subst hj; subst hy; exact .k _
    | 1 => simp [limbs] at hj hy; subst hj; subst hy; exact .k _
    | 2 => simp [limbs] at hj hy; subst hj; subst hy; exact .k _
    | 3 => simp [limbs] at hj hy; subst hj; subst hy; exact .k _
    | j + 4 => simp [limbs] at hj
  · cases h with
    | @a _ _ vs hl h1 hc =>
      have hs : vs.size = 4 := by simpa [limbs] using hl.symm
      congr 1
      apply Array.ext
      · simpa using hs
      · intro i h1 h2
        have hv : vs[i]? = some vs[i] := Array.getElem?_eq_getElem h1
        match i with
        | 0 => exact rep_k (hc 0 _ _ rfl hv)
        | 1 => exact rep_k (hc 1 _ _ rfl hv)
        | 2 => exact rep_k (hc 2 _ _ rfl hv)
        | 3 => exact rep_k (hc 3 _ _ rfl hv)
        | i + 4 => omega
def beB (x : Nat) : Nat → List UInt8
  | 0 => []
  | n + 1 => UInt8.ofNat (x / 256 ^ n % 256) :: beB x n
theorem beB_len (x n : Nat) : (beB x n).length = n := by induction n <;> simp [beB, *]
theorem beB_num (x : Nat) : ∀ n, Ps.beN (beB x n) = x % 256 ^ n
  | 0 => by simp [beB, Ps.beN, Ps.nat8, Ps.pos, Nat.mod_one]
  | n + 1 => by
    have ih := beB_num x n
    have e : Ps.beN (beB x (n + 1)) = x / 256 ^ n % 256 * 256 ^ n + Ps.beN (beB x n) := by
      simp only [beB, Ps.beN, Ps.nat8, List.map_cons, Ps.pos, List.length_map, beB_len, UInt8.toNat_ofNat']
      simp
    rw [e, ih, Nat.pow_succ, Nat.mod_mul, Nat.mul_comm]
    omega
theorem m256_bytes : M256 = 256 ^ 32 := by unfold M256 m64; decide
def wordB (x : Nat) : List UInt8 := beB x 32
theorem wordB_len (x : Nat) : (wordB x).length = 32 := beB_len x 32
theorem wordB_num (x : Nat) : Ps.beN (wordB x) = x % M256 := by rw [m256_bytes]; exact beB_num x 32
def bytesR (x i : Nat) : List UInt8 := (List.range 32).map fun j => if j < i then UInt8.ofNat (x / 256 ^ (31 - j) % 256) else 0
theorem bytesR_len (x i : Nat) : (bytesR x i).length = 32 := by simp [bytesR]
theorem bytesR_full (x : Nat) : bytesR x 32 = wordB x := by
  have e : ∀ n, beB x n = (List.range n).map fun j => UInt8.ofNat (x / 256 ^ (n - 1 - j) % 256) := by
    intro n
    induction n with
    | zero => rfl
    | succ n ih =>
      rw [beB, ih, List.range_succ_eq_map, List.map_cons, List.map_map]
      congr 1
      refine List.map_congr_left fun j hj => ?_
      have := List.mem_range.1 hj
      simp only [Function.comp]
      rw [show n + 1 - 1 - (j + 1) = n - 1 - j by omega]
  unfold wordB bytesR
  rw [e]
  refine List.map_congr_left fun j hj => ?_
  rw [if_pos (List.mem_range.1 hj)]
theorem bytesR_set (x i : Nat) (_hi : i < 32) {b : Nat} (hb : b % 256 = x / 256 ^ (31 - i) % 256) : (bytesR x i).set i (UInt8.ofNat b) = bytesR x (i + 1) := by
  apply List.ext_getElem
  · simp [bytesR]
  · intro j h1 h2
    rw [List.getElem_set]
    simp only [bytesR, List.getElem_map, List.getElem_range]
    by_cases h : i = j
    · subst h
      rw [if_pos rfl, if_pos (by omega)]
      apply UInt8.toNat_inj.1
      rw [UInt8.toNat_ofNat', UInt8.toNat_ofNat']
      omega
    · rw [if_neg h]
      by_cases h3 : j < i
      · rw [if_pos h3, if_pos (by omega)]
      · rw [if_neg h3, if_neg (by omega)]
theorem limb_byte (x k r : Nat) (hr : r < 8) : limb x k / 2 ^ (r * 8) % 256 = x / 256 ^ (8 * k + r) % 256 := by
  unfold limb
  have e1 : (256 : Nat) ^ (8 * k + r) = m64 ^ k * 2 ^ (r * 8) := by
    rw [Nat.pow_add, Nat.pow_mul]
    have h1 : (256 : Nat) ^ 8 = m64 := by unfold m64; decide
    have h2 : (256 : Nat) ^ r = 2 ^ (r * 8) := by rw [Nat.mul_comm, Nat.pow_mul]
    rw [h1, h2]
  rw [e1, ← Nat.div_div_eq_div_mul]
  generalize x / m64 ^ k = y
  have h3 : m64 = 2 ^ (r * 8) * 2 ^ ((8 - r) * 8) := by rw [← Nat.pow_add, show r * 8 + (8 - r) * 8 = 64 from by omega]; unfold m64; decide
  have h4 : (256 : Nat) ∣ 2 ^ ((8 - r) * 8) := by
    refine ⟨2 ^ ((8 - r) * 8 - 8), ?_⟩
    have : (8 - r) * 8 = 8 + ((8 - r) * 8 - 8) := by omega
    rw [this, Nat.pow_add]; simp
  rw [h3, Nat.mod_mul_right_div_self]
  exact Nat.mod_mod_of_dvd _ h4
def tailN (l : List UInt8) (i : Nat) : Nat := Ps.beN (l.drop (l.length - i))
attribute [irreducible] bytesR limbs tailN wordB
end Lf
open Go.RowKit Rg Wm Ar
set_option linter.unusedVariables false
set_option maxRecDepth 100000
namespace Lf
namespace Wo
theorem IntW (n : Nat) (h : n < m64) : LF Try.prog 56 [uK n] (fun _ => wV n) none := .of_calls (by kernel_rfl) rfl (ex1 (exact_k _)) (exact_word _) fun w => Wd.IntW n h w
end Wo
theorem byte_at (x : Nat) {i : Nat} (h : i < 32) : (limbs x).getD ((31 - i) / 8) default / 2 ^ ((31 - i) % 8 * 8) % 256 = x / 256 ^ (31 - i) % 256 := by
  rw [limbs_get x (by omega), limb_byte _ _ _ (Nat.mod_lt _ (by decide))]
  congr 3
  omega
namespace Wo
set_option maxHeartbeats 1000000 in
theorem Bytes (x : Nat) : LF Try.prog 77 [wV x] (fun _ => .a ((wordB x).map bK)) none := by
  have hl := limbs_len x
  refine LFx.mk' tt Try.func77 rfl rfl rfl (by kernel_rfl) rfl rfl fun F => ?_
  refine wk ?_ trueW trueW
  refine LC.loop2 (fun i L => [(1, .p 1 0), (2, .p 2 0), (3, .p 3 0), (6, .k (.int .i64 ((i : Nat) : Int)))]) (fun i L => [(1, .b ((limbs x).map uK)), (2, .b ((List.replicate 32 0).map bK)), (3, .b (L.map bK))]) (fun i L => i ≤ 32 ∧ L = bytesR x i) ((32 - ·)) (0) ((List.replicate 32 0)) ⟨by omega, by unfold bytesR; rfl⟩ ⟨rfl, rfl, rfl, rfl, trivial⟩ ⟨rfl, rfl, rfl, trivial⟩ rfl rfW rfW ?_
  rintro i L ⟨hi, hL⟩
  have hb := bytesR_len x i
  rw [← hL] at hb
  rcases Nat.lt_or_ge i 32 with h | h
  · have hok : i + 1 ≤ 32 ∧ L.set i (UInt8.ofNat ((limbs x).getD ((31 - i) / 8) default / 2 ^ ((31 - i) % 8 * 8))) = bytesR x (i + 1) := ⟨h, by rw [hL]; exact bytesR_set x i h (byte_at x h)⟩
    clear hL
    exact wk trueW trueW trueW
  · obtain rfl : i = 32 := by omega
    have hv1 : V.a (L.map bK) = V.a ((wordB x).map bK) := by rw [hL, bytesR_full]
    clear hL
    exact wk trueW trueW trueW
end Wo
end Lf
namespace Pk
open Ps
inductive Itm where
  | mk (l : Bool) (t : List UInt8) (ks : List Itm)
  deriving Inhabited
mutual
def Itm.size : Itm → Nat
  | .mk _ t ks => 1 + t.length + Itm.sizeL ks
def Itm.sizeL : List Itm → Nat
  | [] => 0
  | k :: r => k.size + 1 + Itm.sizeL r
end
def numL : Nat → List UInt8
  | 0 => []
  | n + 1 => numL ((n + 1) / 256) ++ [UInt8.ofNat ((n + 1) % 256)]
decreasing_by omega
theorem beN_append (l m : List UInt8) : beN (l ++ m) = beN l * 256 ^ m.length + beN m := by
  unfold beN
  rw [show nat8 (l ++ m) = nat8 l ++ nat8 m by simp [nat8], pos_append]
  simp [nat8]
theorem beN_numL : ∀ n, beN (numL n) = n
  | 0 => by rw [numL]; rfl
  | n + 1 => by
    have h : (n + 1) / 256 < n + 1 := by omega
    rw [numL, beN_append, beN_numL ((n + 1) / 256)]
    have : beN [UInt8.ofNat ((n + 1) % 256)] = (n + 1) % 256 := by simp [beN, nat8, pos]
    rw [this]
    simp only [List.length_cons, List.length_nil]
    omega
decreasing_by omega
theorem numL_head : ∀ n, (numL n).head? ≠ some 0
  | 0 => by rw [numL]; simp
  | n + 1 => by
    have h : (n + 1) / 256 < n + 1 := by omega
    rw [numL]
    have ih := numL_head ((n + 1) / 256)
    cases hl : numL ((n + 1) / 256) with
    | nil =>
      have e := beN_numL ((n + 1) / 256)
      rw [hl] at e
      have e0 : beN [] = 0 := rfl
      rw [e0] at e
      intro h0
      simp only [List.nil_append, List.head?_cons, Option.some.injEq] at h0
      have := congrArg UInt8.toNat h0
      simp at this
      omega
    | cons a r => rw [hl] at ih; simpa using ih
decreasing_by omega
theorem numL_uniq {n : Nat} {l : List UInt8} (h : l.head? ≠ some 0) (k : beN l = n) : l = numL n := beN_inj h (numL_head n) (k.trans (beN_numL n).symm)
theorem strip_num {l : List UInt8} {n : Nat} (h : beN l = n) : strip l = numL n := numL_uniq (strip_head l) ((beN_strip l).trans h)
theorem numL_len {n k : Nat} (h : n < 256 ^ k) : (numL n).length ≤ k := by
  rcases Nat.lt_or_ge k (numL n).length with hlt | hge
  · exfalso
    have hh := numL_head n
    have hb := beN_numL n
    cases hl : numL n with
    | nil => rw [hl] at hlt; simp at hlt
    | cons a r =>
      rw [hl] at hh hb hlt
      have ha : a.toNat ≠ 0 := fun e => hh (by simp only [List.head?_cons, Option.some.injEq]; exact UInt8.toNat_inj.1 (by rw [e]; rfl))
      have := pos_ge (B := 256) (a := a.toNat) (l := nat8 r) ha
      have e : pos 256 (a.toNat :: nat8 r) = n := hb
      rw [e] at this
      have hp : 256 ^ k ≤ 256 ^ (nat8 r).length := Nat.pow_le_pow_right (by decide) (by simp [nat8] at hlt ⊢; omega)
      omega
  · exact hge
theorem numL_pos {n : Nat} (h : 0 < n) : 0 < (numL n).length := by
  rcases Nat.eq_zero_or_pos (numL n).length with h0 | h0
  · have e := beN_numL n
    rw [List.eq_nil_of_length_eq_zero h0] at e
    have e0 : beN [] = 0 := rfl
    omega
  · exact h0
def head (base n : Nat) : List UInt8 := if n < 48 then [UInt8.ofNat (base + n)] else UInt8.ofNat (base + 48 + ((numL n).length - 1)) :: numL n
mutual
def enc : Itm → List UInt8
  | .mk false t _ => if t.length = 1 ∧ t.getD 0 default < 128 then t else head 128 t.length ++ t
  | .mk true _ ks => head 192 (encL ks).length ++ encL ks
def encL : List Itm → List UInt8
  | [] => []
  | k :: r => enc k ++ encL r
end
mutual
def nrm : Itm → Itm
  | .mk false t _ => .mk false t []
  | .mk true _ ks => .mk true [] (nrmL ks)
def nrmL : List Itm → List Itm
  | [] => []
  | k :: r => nrm k :: nrmL r
end
mutual
def same : Itm → Itm → Bool
  | .mk l t ks, .mk l' t' ks' => decide (l = l') && (if l = false then decide (t = t') else decide (ks.length = ks'.length) && sameL ks ks')
def sameL : List Itm → List Itm → Bool
  | a :: r, b :: s => same a b && sameL r s
  | [], _ => true
  | _ :: _, [] => true
end
def take? (n : Nat) (l : List UInt8) : Option (List UInt8 × List UInt8) := if n ≤ l.length then some (l.take n, l.drop n) else none
def lenR (c base : Nat) (l : List UInt8) : Option (Nat × List UInt8) :=
  if c < base + 48 then some (c - base, l)
  else match take? (c - base - 48 + 1) l with
    | none => none
    | some (h, r) => if h.head? = some 0 ∨ 8 < h.length then none else if beN h < 48 then none else some (beN h, r)
def part (c base : Nat) (l : List UInt8) : Option (List UInt8 × List UInt8) :=
  match lenR c base l with
  | none => none
  | some (n, r) => take? n r
theorem ofNat_toNat {n : Nat} (h : n < 256) : (UInt8.ofNat n).toNat = n := by simp; omega
theorem head_len {b n : Nat} (h : n < 2 ^ 64) : (head b n).length ≤ 9 := by
  unfold head
  split
  · simp
  · have := numL_len (n := n) (k := 8) (by simpa using h)
    simp only [List.length_cons]; omega
mutual
theorem enc_len : ∀ a : Itm, a.size < 2 ^ 56 → (enc a).length ≤ 9 * a.size
  | .mk false t ks, h => by
    unfold enc Itm.size at *
    split
    · omega
    · have : (head 128 t.length).length ≤ 9 := head_len (by omega)
      simp only [List.length_append]; omega
  | .mk true t ks, h => by
    unfold enc Itm.size at *
    have := encL_len ks (by omega)
    have h2 : (head 192 (encL ks).length).length ≤ 9 := head_len (by omega)
    simp only [List.length_append]; omega
theorem encL_len : ∀ a : List Itm, Itm.sizeL a < 2 ^ 56 → (encL a).length ≤ 9 * Itm.sizeL a
  | [], _ => by simp [encL]
  | k :: r, h => by
    unfold encL Itm.sizeL at *
    have h1 := enc_len k (by omega)
    have h2 := encL_len r (by omega)
    simp only [List.length_append]; omega
end
attribute [irreducible] head enc encL lenR part
end Pk
open Go.RowKit Rg
set_option linter.unusedVariables false
set_option maxRecDepth 100000
namespace Lf
section
variable {P : Program} {F : Fr0} {N : Nat} {Q : LQ} {env : Env} {mem : Mem} {ops : Array Oper} {o : Oper} {rs : List Oper} {d : Nat}
theorem LS.eqNil {T Y e : Nat} {x : Operand} {t : Option Nat} {es : List V} (X : TOk P) {ti : TI} (hg : gd ops env o = some true) (hds : o.dst = some d) (ho : o.op = .binOp .eql T x (.const (.slice none 0 0)) Y) (hx : evo env x = some (.s t es)) (hT : aget X.tab T = some ti) (hdt : ti.d = .sl e) (hd : Nat.blt d N = true)
    (h1 : es = [] → LS P F N ops rs Q ((d, .k (.bool true)) :: env) mem) (h2 : LS P F N ops rs Q ((d, .k (.bool false)) :: env) mem) : LS P F N ops (o :: rs) Q env mem := ⟨fun F0 hxe g a w hr => by
  have hu := (X.get hT).sl hdt
  have hgt : P.eqGuardType P.depth T = false := by
    obtain ⟨m, hm⟩ : ∃ m, P.depth = m + 1 := ⟨2 * (P.types.size + Made.depth) + 1, rfl⟩
    rw [hm]
    simp [Program.eqGuardType, hu]
  have hrun : ∀ (ad : Option Addr) (n c : Nat), a.eval x = .slice ad n c → (execOp a.eval o).run P w = .ok (.value (.bool ad.isNone)) w := fun ad n c h => by
    have q1 : (eqGuard .eql T x (.const (.slice none 0 0)) (.slice ad n c) (.slice none 0 0)).run P w = .ok () w := by
      unfold eqGuard
      simp
    have q2 : (binOp .eql T (.slice ad n c) (.slice none 0 0)).run P w = .ok (.bool ad.isNone) w := by
      have e : Op.equal T (.slice ad n c) (.slice none 0 0) = Op.equalIn (9999 + 1) T (.slice ad n c) (.slice none 0 0) := rfl
      have q3 : (Op.equalIn (9999 + 1) T (.slice ad n c) (.slice none 0 0)).run P w = .ok ad.isNone w := by
        rw [Op.equalIn, Sem.run_bind, run_underlying hu w]
        cases ad <;> rfl
      simp only [binOp, e, Sem.run_bind, q3, Result.andThen_ok]
      rfl
    have hx2 : a.eval (.const (.slice none 0 0)) = .slice none 0 0 := rfl
    simp only [execOp, ho, h, hx2, Sem.run_bind, q1, Result.andThen_ok, q2]
    rfl
  have hdd : dok o.dst N = true := by rw [hds]; exact hd
  have hrep := hr.evo hx
  refine wpListIn_step fun K hK => ?_
  rw [gd_wanted hr hg, if_pos rfl]
  have go : ∀ b : Bool, (execOp a.eval o).run P w = .ok (.value (.bool b)) w → LS P F N ops rs Q ((d, .k (.bool b)) :: env) mem → o.wpIn F0.fz 0 P a w K (liftQ F0 N Q) := fun b hb hl => by
    refine op_in ?_ (fun c e => by rw [ho] at e; cases e)
    unfold Oper.wp
    rw [hb]
    refine hK _ _ (hl.go F0 hxe g _ w ?_)
    have := hr.put (Ev.refl g w) hr.mem hr.kept (Rep.k (w := w) (g := g) (.bool b)) hdd
    rw [hds] at this
    rw [hds]
    exact this
  generalize hv : a.eval x = v at hrep
  cases hrep with
  | s0 => exact go true (hrun _ _ _ hv) (h1 rfl)
  | se => exact go false (hrun _ _ _ hv) h2
  | s => exact go false (hrun _ _ _ hv) h2⟩
end
theorem LM.row1 {P : Program} {f : Nat} {args es : List V} {E sz n k0 : Nat} (hA : ∀ (ρ : Nat → Nat), args.map (V.ren ρ) = args) (h : LM P f args [] fun o m => o = .ret (.s (some k0) es) ∧ m = [(k0, .r E sz n)]) (k : Nat) : LM P f args [] fun o m => o = .ret (.s (some k) es) ∧ m = [(k, .r E sz n)] :=
  LM.gen [k0] [k] (by simp) (by simp) rfl h fun ρ hρ => by
    simp at hρ
    refine ⟨hA _, rfl, ?_, ?_⟩
    · simp [Out.ren, V.ren, hρ]
    · simp [Mem.ren, M.ren, hρ]
end Lf
namespace Lf
section
end
end Lf
open Go.RowKit Rg
set_option linter.unusedVariables false
set_option maxRecDepth 100000
namespace Lf
theorem LM.nilrow {P : Program} {f : Nat} {args : List V} (E sz k : Nat) (hp : Nat.blt 0 sz = true) (h : LM P f args [] fun o m => o = .ret .nil ∧ m = []) : LM P f args [] fun o m => o = .ret (.s (some k) []) ∧ m = [(k, .r E sz 0)] :=
  ⟨h.ok, fun g w vals h1 h2 h3 => Calls.mono (h.go g w vals h1 h2 h3) fun e w' ⟨o, mo, g', ⟨ho, hm⟩, hev, hrel, hk, hat⟩ => by
    subst ho; subst hm
    have hown0 : w'.oRow 0 E sz (.slice (Option.map (fun b => (⟨b, 0, none⟩ : Addr)) none) 0 0) 0 [] := oRow_nil w' 0 E sz
    have hgi : (g'.addRow k (none, 0, 0)).rw k = some (none, 0, 0) := by simp [Gh.addRow]
    obtain ⟨he, r2, r3⟩ := hrel.nilRow hk (i := k) (m := .r E sz 0) rfl (.r hgi ⟨Nat.le_of_ble_eq_true hp, ⟨_, hown0⟩, fun _ h => by cases h⟩) fun b o ⟨l, c, hp⟩ => by rw [hgi] at hp; cases hp
    obtain ⟨x, hx, hrep⟩ := hat
    cases hrep
    exact ⟨_, _, _, ⟨rfl, rfl⟩, hev.trans he, r2, r3, ⟨_, hx, .s0 fun r hr' => by cases hr'; exact ⟨none, 0, 0, hgi, Nat.le_refl _, fun _ => .inl rfl⟩⟩⟩⟩
end Lf
open Go.RowKit Rg
set_option linter.unusedVariables false
set_option maxRecDepth 100000
namespace Lf
abbrev bV (l : List UInt8) : V := .s none (l.map bK)
end Lf
end Go.Proofs.Ytgjoecocahpfhaa
