/- A part of the proof: texts joined. -/
import Derived.Test.YtnmjpbcbldenmaaProg
import Derived.Shelf.Bits.Mul64
import Derived.Test.YtnmjpbcbldenmaaQ40c6807
/- The sponge: walks of Mix, Unmix, read, write8. -/
namespace Go.Proofs.Ytnmjpbcbldenmaa
open Go.RowKit Rg
set_option linter.unusedVariables false
set_option maxRecDepth 100000
namespace Lf
namespace Sp
theorem Rotl (x : UInt64) (k : Nat) (h : k < 64) : LF Try.prog 111 [qK x, .k (.int .i64 (k : Int))] (fun _ => qK (rotl x k)) none := by
  have h1 : IntKind.u64.wrap ((k : Nat) : Int) = ((k : Nat) : Int) := wrap_u64 (by omega)
  have h2 : IntKind.u64.wrap (((BitVec.ofInt IntKind.u64.bits (k : Int) &&& BitVec.ofInt IntKind.u64.bits (63 : Int)).toNat : Nat) : Int) = ((k : Nat) : Int) := by
    have := and_u64 (a := k) (b := 63) (by omega) (by decide)
    rw [show (k &&& 63) = k from by rw [show (63 : Nat) = 2 ^ 6 - 1 from rfl, Nat.and_two_pow_sub_one_eq_mod]; exact Nat.mod_eq_of_lt h] at this
    exact this
  have h3 := x.toNat_lt
  have h4 : x.toNat * 2 ^ k % 2 ^ 64 < 18446744073709551616 := Nat.mod_lt _ (by decide)
  have h5 : x.toNat / 2 ^ (64 - k) < 18446744073709551616 := Nat.lt_of_le_of_lt (Nat.div_le_self _ _) h3
  unfold qK
  rw [rotl_toNat]
  refine LFx.mk' tt Try.func111 rfl rfl rfl (by kernel_rfl) rfl rfl fun F => ?_
  exact wk trueW trueW trueW
set_option maxHeartbeats 1000000 in
theorem Mix (s : List UInt64) (hs : s.length = 8) : LF Try.prog 110 [.a (s.map qK)] (fun _ => .a ((mixQ s).map qK)) none := by
  have c1 := Rotl
  refine LFx.mk' tt Try.func110 rfl rfl rfl (by kernel_rfl) rfl rfl fun F => ?_
  refine wk ?_ trueW trueW
  refine LC.loop2 (fun r S => [(1, .p 1 0), (2, .p 2 0), (5, .k (.int .i64 (r : Int)))]) (fun r S => [(1, .b (S.map qK)), (2, .b (List.replicate 8 (.k (.int .u64 0))))]) (fun r S => r ≤ 12 ∧ S = iter qround s r) (12 - ·) 0 s ⟨by omega, rfl⟩ ⟨rfl, rfl, rfl, trivial⟩ ⟨rfl, rfl, trivial⟩ rfl rfl (by first | exact rfl | (simp only [V.cells, refsE, refsM, V.refs, V.refs.go, refs_mapq, refs_mapb, refs_append, Bool.and_true, Bool.true_and, Bool.and_self, keysOk]; done) | (simp only [V.cells, refsE, refsM, V.refs, V.refs.go, refs_mapq, refs_mapb, refs_append, Bool.and_true, Bool.true_and, Bool.and_self]; exact rfl)) fun r S ⟨hr, hS⟩ => ?_
  have hl : S.length = 8 := hS ▸ (iter_len qround_len s r).trans hs
  rcases Nat.lt_or_ge r 12 with h | h
  · refine wk ?_ trueW trueW
    refine LC.loop2 (fun i S => [(1, .p 1 0), (2, .p 2 0), (5, .k (.int .i64 (r : Int))), (16, .k (.int .i64 (i : Int)))]) (fun i S => [(1, .b (S.map qK)), (2, .b (List.replicate 8 (.k (.int .u64 0))))]) (fun i S2 => i ≤ 8 ∧ S2 = iter qstep (qkey S r) i) (8 - ·) 0 (qkey S r) ⟨by omega, rfl⟩ ⟨rfl, rfl, rfl, rfl, trivial⟩ ⟨rfl, rfl, trivial⟩ rfl rfl (by first | exact rfl | (simp only [V.cells, refsE, refsM, V.refs, V.refs.go, refs_mapq, refs_mapb, refs_append, Bool.and_true, Bool.true_and, Bool.and_self, keysOk]; done) | (simp only [V.cells, refsE, refsM, V.refs, V.refs.go, refs_mapq, refs_mapb, refs_append, Bool.and_true, Bool.true_and, Bool.and_self]; exact rfl)) fun i S2 ⟨hi, hS2⟩ => ?_
    have hl2 : S2.length = 8 := hS2 ▸ (iter_len qstep_len _ i).trans ((qkey_len _ _).trans hl)
    rcases Nat.lt_or_ge i 8 with h2 | h2
    · have hok : i + 1 ≤ 8 ∧ qstep S2 i = iter qstep (qkey S r) (i + 1) := ⟨by omega, by rw [iter, ← hS2]⟩
      exact wk trueW trueW trueW
    · obtain rfl : i = 8 := by omega
      have hok : r + 1 ≤ 12 ∧ S2 = iter qround s (r + 1) := ⟨by omega, by rw [iter, ← hS]; exact hS2⟩
      exact wk trueW trueW trueW
  · obtain rfl : r = 12 := by omega
    have hv : V.a (S.map qK) = V.a ((mixQ s).map qK) := congrArg (fun z => V.a (List.map qK z)) (hS.trans (mixQ_eq s).symm)
    exact wk trueW trueW trueW
end Sp
end Lf
end Go.Proofs.Ytnmjpbcbldenmaa

/- The sponge: read, write8, the hasher. -/
namespace Go.Proofs.Ytnmjpbcbldenmaa
open Go.RowKit Rg
set_option linter.unusedVariables false
set_option maxRecDepth 100000
namespace Lf
/-! ### What they come to -/
def readStep (l : List UInt8) (x : UInt64) (i : Nat) : UInt64 := x ||| UInt64.ofNat ((l.getD i default).toNat * 2 ^ (8 * i) % 2 ^ 64)
def readQ (l : List UInt8) : UInt64 := iter (readStep l) 0 8
def wr8 (x : UInt64) (off : Nat) (L : List UInt8) (i : Nat) : List UInt8 := L.set (off + i) (UInt8.ofNat (x.toNat / 2 ^ (8 * i)))
structure Hs where
  st : List UInt64
  pt : List UInt8
  n : Nat
structure Hs.ok (h : Hs) : Prop where
  st : h.st.length = 8
  pt : h.pt.length = 32
  n : h.n < 32
def Hs.cells (h : Hs) : List V := h.st.map qK ++ (h.pt.map bK ++ [.k (.int .i64 ((h.n : Nat) : Int))])
def xorIn (P : List UInt8) (S : List UInt64) (j : Nat) : List UInt64 := S.set j (S.getD j default ^^^ readQ ((P.drop (8 * j)).take (32 - 8 * j)))
def takeH (h : Hs) (x : UInt8) : Hs :=
  if h.n + 1 < 32 then ⟨h.st, h.pt.set h.n x, h.n + 1⟩ else ⟨mixQ (iter (xorIn (h.pt.set h.n x)) h.st 4), h.pt.set h.n x, 0⟩
theorem xorIn_len (P : List UInt8) (S : List UInt64) (j : Nat) : (xorIn P S j).length = S.length := by simp [xorIn]
theorem takeH_ok {h : Hs} (k : h.ok) (x : UInt8) : (takeH h x).ok := by
  unfold takeH
  split
  · exact ⟨k.st, by simp [k.pt], by assumption⟩
  · exact ⟨by rw [mixQ_len, iter_len (xorIn_len _)]; exact k.st, by simp [k.pt], Nat.zero_lt_succ _⟩
theorem readQ_eq (l : List UInt8) : readQ l = iter (readStep l) 0 8 := rfl
attribute [irreducible] readQ takeH
theorem refs_cells (m : Mem) (h : Hs) : V.refs.go m h.cells = true := by
  simp only [Hs.cells, refs_append, refs_mapq, refs_mapb]; rfl
namespace Sp
set_option maxHeartbeats 1000000 in
theorem read (l : List UInt8) (hl : 8 ≤ l.length) : LF Try.prog 109 [.s none (l.map bK)] (fun _ => qK (readQ l)) none := by
  refine LFx.mk' tt Try.func109 rfl rfl rfl (by kernel_rfl) rfl rfl fun F => ?_
  refine wk ?_ trueW trueW
  refine LC.loop2 (fun i x => [(0, .s none (l.map bK)), (3, qK x), (5, .k (.int .i64 ((i : Nat) : Int)))]) (fun i x => []) (fun i x => i ≤ 8 ∧ x = iter (readStep l) 0 i) ((8 - ·)) (0) (0) ⟨by omega, rfl⟩ ⟨rfl, rfl, rfl, trivial⟩ trivial rfl rfW rfW ?_
  rintro i x ⟨hi, hx⟩
  rcases Nat.lt_or_ge i 8 with h | h
  · have hok : i + 1 ≤ 8 ∧ readStep l x i = iter (readStep l) 0 (i + 1) := ⟨by omega, by rw [iter, ← hx]⟩
    have hb := (l.getD i default).toNat_lt
    exact wk trueW trueW trueW
  · obtain rfl : i = 8 := by omega
    have hv : qK x = qK (readQ l) := congrArg qK (hx.trans (readQ_eq l).symm)
    exact wk trueW trueW trueW
set_option maxHeartbeats 1000000 in
theorem take1 (h : Hs) (k : h.ok) (x : UInt8) : LM Try.prog 104 [.p 1000 0, bK x] [(1000, .b h.cells)] fun o m => o = .ret (.t []) ∧ m = [(1000, .b (takeH h x).cells)] := by
  have c1 := read
  obtain ⟨S, P, n⟩ := h
  obtain ⟨h1, h2, h3⟩ := k
  simp only at h1 h2 h3
  generalize hT : takeH ⟨S, P, n⟩ x = T
  simp only [Hs.cells]
  refine LM.enter tt Try.func104 rfl rfl rfl (by kernel_rfl) rfl rfl rfl (fun o mo h => by rw [h.2]; rfl) fun F _ => ?_
  rcases Nat.lt_or_ge (n + 1) 32 with h | (h : 32 ≤ n + 1)
  · have e : T = ⟨S, P.set n x, n + 1⟩ := hT.symm.trans (by unfold takeH; exact if_pos h)
    clear hT
    subst e
    exact wk trueW trueW trueW
  · have e : T = ⟨mixQ (iter (xorIn (P.set n x)) S 4), P.set n x, 0⟩ := hT.symm.trans (by unfold takeH; exact if_neg (by show ¬ n + 1 < 32; omega))
    clear hT
    obtain rfl : n = 31 := by omega
    refine wk ?_ trueW trueW
    refine LC.loop2 (fun j S' => [(0, .p 1000 0), (29, .k (.int .i64 ((j : Nat) : Int)))]) (fun j S' => [(1000, .b (S'.map qK ++ ((P.set 31 x).map bK ++ [.k (.int .i64 0)])))]) (fun j S' => j ≤ 4 ∧ S' = iter (xorIn (P.set 31 x)) S j) ((4 - ·)) (0) (S) ⟨by omega, rfl⟩ ⟨rfl, rfl, trivial⟩ ⟨rfl, trivial⟩ rfl rfW rfW ?_
    rintro j S' ⟨hj, hS⟩
    have hl : S'.length = 8 := by rw [hS, iter_len (xorIn_len _)]; exact h1
    rcases Nat.lt_or_ge j 4 with h | h
    · have hok : j + 1 ≤ 4 ∧ xorIn (P.set 31 x) S' j = iter (xorIn (P.set 31 x)) S (j + 1) := ⟨by omega, by rw [iter, ← hS]⟩
      clear hS e
      exact wk trueW trueW trueW
    · obtain rfl : j = 4 := by omega
      have hm := mixQ_len S'
      have c2 := Mix S' hl
      rw [← hS] at e
      clear hS
      generalize mixQ S' = M at e hm c2
      subst e
      exact wk trueW trueW trueW
theorem take (h : Hs) (k : h.ok) (x : UInt8) (i : Nat) : LM Try.prog 104 [.p i 0, bK x] [(i, .b h.cells)] fun o m => o = .ret (.t []) ∧ m = [(i, .b (takeH h x).cells)] :=
  LM.box1 (fun k => [.p k 0, bK x]) (fun _ _ => rfl) (refs_cells _ h) (refs_cells _ _) rfl (take1 h k x) i
end Sp
def writeH (h : Hs) (b : List UInt8) : Hs := b.foldl takeH h
theorem writeH_ok {h : Hs} (k : h.ok) : ∀ b, (writeH h b).ok := by
  intro b
  induction b generalizing h with
  | nil => exact k
  | cons x r ih => exact ih (takeH_ok k x)
theorem foldl_take {α β : Type} [Inhabited α] {f : β → α → β} {s : β} {l : List α} {k : Nat} (h : k < l.length) : (l.take (k + 1)).foldl f s = f ((l.take k).foldl f s) (l.getD k default) := by
  rw [List.take_succ_eq_append_getElem h, List.foldl_append, List.getD_eq_getElem?_getD, List.getElem?_eq_getElem h]; rfl
attribute [irreducible] writeH Hs.cells
namespace Sp
set_option maxHeartbeats 1000000 in
theorem Write1 (h : Hs) (k : h.ok) (l : List UInt8) (hl : l.length < 1073741824) : LM Try.prog 91 [.p 1000 0, .s none (l.map bK)] [(1000, .b h.cells)] fun o m => o = .ret (.t []) ∧ m = [(1000, .b (writeH h l).cells)] := by
  have c1 := take
  refine LM.enter tt Try.func91 rfl rfl rfl (by kernel_rfl) rfl rfl rfl (fun o mo h => by rw [h.2]; rfl) fun F _ => ?_
  have hrf := refs_cells
  refine wk ?_ trueW trueW
  refine LC.loop2 (fun j H => [(0, .p 1000 0), (6, .s none (l.map bK)), (7, .k (.int .i64 ((l.length : Nat) : Int))), (8, .k (.int .i64 ((j : Nat) : Int)))]) (fun j H => [(1000, .b H.cells)]) (fun j H => j ≤ l.length ∧ H = writeH h (l.take j)) ((l.length - ·)) (0) (h) ⟨by omega, by simp [writeH]⟩ ⟨rfl, rfl, rfl, rfl, trivial⟩ ⟨rfl, trivial⟩ rfl rfW rfW ?_
  rintro j H ⟨hj, hH⟩
  have hk : H.ok := hH ▸ writeH_ok k _
  rcases Nat.lt_or_ge j l.length with h2 | h2
  · have hok : j + 1 ≤ l.length ∧ takeH H (l.getD j default) = writeH h (l.take (j + 1)) := ⟨by omega, by rw [hH]; unfold writeH; exact (foldl_take h2).symm⟩
    exact wk trueW trueW trueW
  · obtain rfl : j = l.length := by omega
    rw [List.take_length] at hH
    subst hH
    exact wk trueW trueW trueW
theorem Write (h : Hs) (k : h.ok) (l : List UInt8) (hl : l.length < 1073741824) (i : Nat) : LM Try.prog 91 [.p i 0, .s none (l.map bK)] [(i, .b h.cells)] fun o m => o = .ret (.t []) ∧ m = [(i, .b (writeH h l).cells)] :=
  LM.box1 (fun k => [.p k 0, .s none (l.map bK)]) (fun _ _ => rfl) (refs_cells _ h) (refs_cells _ _) rfl (Write1 h k l hl) i
end Sp
end Lf
end Go.Proofs.Ytnmjpbcbldenmaa

/- The sponge: sums, padding; what is alive. -/
namespace Go.Proofs.Ytnmjpbcbldenmaa
open Go.RowKit Rg
set_option linter.unusedVariables false
set_option maxRecDepth 100000
namespace Lf
theorem wr8_len (x : UInt64) (off : Nat) (L : List UInt8) (i : Nat) : (wr8 x off L i).length = L.length := by simp [wr8]
theorem iterB_len {f : List UInt8 → Nat → List UInt8} (hf : ∀ s i, (f s i).length = s.length) (s : List UInt8) (n : Nat) : (iter f s n).length = s.length := iter_inv (p := fun t => t.length = s.length) (fun t i h => (hf t i).trans h) rfl n
def wrQ (st : List UInt64) (L : List UInt8) (j : Nat) : List UInt8 := iter (wr8 (st.getD j default) (8 * j)) L 8
theorem wrQ_len (st : List UInt64) (L : List UInt8) (j : Nat) : (wrQ st L j).length = L.length := iterB_len (wr8_len _ _) _ _
def outQ (st : List UInt64) : List UInt8 := iter (wrQ st) (List.replicate 32 0) 4
theorem outQ_eq (st : List UInt64) : outQ st = iter (wrQ st) (List.replicate 32 0) 4 := rfl
theorem wrQ_eq (st : List UInt64) (L : List UInt8) (j : Nat) : iter (wr8 (st.getD j default) (8 * j)) L 8 = wrQ st L j := rfl
theorem outQ_len (st : List UInt64) : (outQ st).length = 32 := by unfold outQ; rw [iterB_len (wrQ_len st)]; rfl
def padN (h : Hs) (i : Nat) : Hs := iter (fun h _ => takeH h 0) h i
def padH (h : Hs) : Hs := padN (takeH h 1) (31 - (takeH h 1).n)
def sumH (h : Hs) : List UInt8 := outQ (takeH (padH h) 128).st
def hs0 : Hs := ⟨List.replicate 8 0, List.replicate 32 0, 0⟩
theorem hs0_ok : hs0.ok := ⟨rfl, rfl, Nat.zero_lt_succ _⟩
def sumB (b : List UInt8) : List UInt8 := sumH (writeH hs0 b)
theorem sumB_len (b : List UInt8) : (sumB b).length = 32 := by unfold sumB sumH; exact outQ_len _
theorem padN_ok {h : Hs} (k : h.ok) (i : Nat) : (padN h i).ok := iter_inv (f := fun h _ => takeH h 0) (p := Hs.ok) (fun s _ h => takeH_ok h 0) k i
theorem cells_len {h : Hs} (k : h.ok) : h.cells.length = 41 := by simp [Hs.cells, k.st, k.pt]
theorem takeH_n {h : Hs} (x : UInt8) (hn : h.n + 1 < 32) : (takeH h x).n = h.n + 1 := by unfold takeH; rw [if_pos hn]
theorem ld_n {ti : TI} {h : Hs} (k : h.ok) (hd : ti.d.agg = false) : ti.part h.cells 40 = some (.k (.int .i64 ((h.n : Nat) : Int))) := by
  unfold TI.part Hs.cells
  rw [hd]
  simp [k.st, k.pt]
theorem ld_st {ti : TI} {h : Hs} {j : Nat} (k : h.ok) (hd : ti.d.agg = false) (hj : j < 8) : ti.part h.cells j = some (qK (h.st.getD j default)) := by
  unfold TI.part Hs.cells
  rw [hd]
  have := k.st
  simp [List.getElem?_append_left, show j < h.st.length by omega, List.getD_eq_getElem?_getD]
attribute [irreducible] outQ padN padH sumH sumB wrQ
namespace Sp
set_option maxHeartbeats 1000000 in
theorem write8 (x : UInt64) (L : List UInt8) (off n cap : Nat) (hn : 8 ≤ n) (hL : off + 8 ≤ L.length) (i : Nat) : LM Try.prog 105 [.sb i off n cap, qK x] [(i, .b (L.map bK))] fun o m => o = .ret (.t []) ∧ m = [(i, .b ((iter (wr8 x off) L 8).map bK))] := by
  refine LM.box1 (fun k => [.sb k off n cap, qK x]) (fun _ _ => rfl) (refs_mapb _ _) (refs_mapb _ _) rfl ?_ i
  refine LM.enter tt Try.func105 rfl rfl rfl (by kernel_rfl) rfl rfl rfl (fun o mo h => by rw [h.2]; rfl) fun F _ => ?_
  refine wk ?_ trueW trueW
  refine LC.loop2 (fun j M => [(0, .sb 1000 off n cap), (1, qK x), (5, .k (.int .i64 ((j : Nat) : Int)))]) (fun j M => [(1000, .b (M.map bK))]) (fun j M => j ≤ 8 ∧ M = iter (wr8 x off) L j) ((8 - ·)) (0) (L) ⟨by omega, rfl⟩ ⟨rfl, rfl, rfl, trivial⟩ ⟨rfl, trivial⟩ rfl rfW rfW ?_
  rintro j M ⟨hj, hM⟩
  have hl : M.length = L.length := by rw [hM, iterB_len (wr8_len _ _)]
  rcases Nat.lt_or_ge j 8 with h | h
  · have hok : j + 1 ≤ 8 ∧ wr8 x off M j = iter (wr8 x off) L (j + 1) := ⟨by omega, by rw [iter, ← hM]⟩
    clear hM
    have h3 := x.toNat_lt
    unfold qK
    exact wk trueW trueW trueW
  · obtain rfl : j = 8 := by omega
    rw [← hM]
    exact wk trueW trueW trueW
set_option maxHeartbeats 1000000 in
theorem HSum (h : Hs) (k : h.ok) : LF Try.prog 92 [.a h.cells] (fun _ => .a ((sumH h).map bK)) none := by
  have c1 := fun (h : Hs) (k : h.ok) (i : Nat) => take h k 1 i
  have c2 := fun (h : Hs) (k : h.ok) (i : Nat) => take h k 0 i
  have c3 := fun (h : Hs) (k : h.ok) (i : Nat) => take h k 128 i
  have c4 := write8
  have hrf := refs_cells
  have ld1 := @ld_n
  have ld2 := @ld_st
  have k1 := takeH_ok k 1
  generalize hs : sumH h = R
  unfold sumH padH at hs
  refine LFx.mk' tt Try.func92 rfl rfl rfl (by kernel_rfl) rfl rfl fun F => ?_
  refine wk ?_ trueW trueW
  generalize hH : takeH h 1 = H1 at hs k1
  have hn := k1.n
  refine LC.loop2 (fun i H => [(1, .p 1 0), (2, .p 2 0)]) (fun i H => [(1, .b H.cells), (2, .b ((List.replicate 32 0).map bK))]) (fun i H => i ≤ 31 - H1.n ∧ H = padN H1 i ∧ H.n = H1.n + i) ((31 - H1.n - ·)) (0) (H1) ⟨by omega, by unfold padN; rfl, rfl⟩ ⟨rfl, rfl, trivial⟩ ⟨rfl, rfl, trivial⟩ rfl rfW rfW ?_
  rintro i H ⟨hi, hH2, hn2⟩
  have k2 : H.ok := hH2 ▸ padN_ok k1 i
  rcases Nat.lt_or_ge i (31 - H1.n) with h2 | h2
  · have hok : i + 1 ≤ 31 - H1.n ∧ takeH H 0 = padN H1 (i + 1) ∧ (takeH H 0).n = H1.n + (i + 1) := ⟨by omega, by rw [hH2]; unfold padN; rfl, by rw [takeH_n 0 (by omega)]; omega⟩
    clear hH2
    exact wk trueW trueW trueW
  · obtain rfl : i = 31 - H1.n := by omega
    rw [← hH2] at hs
    clear hH2
    have k3 := takeH_ok k2 128
    refine wk ?_ trueW trueW
    generalize takeH H 128 = H3 at hs k3
    refine LC.loop2 (fun j L => [(1, .p 1 0), (2, .p 2 0), (3, .p 3 0), (11, .k (.int .i64 ((j : Nat) : Int)))]) (fun j L => [(1, .b H3.cells), (2, .b ((List.replicate 32 0).map bK)), (3, .b (L.map bK))]) (fun j L => j ≤ 4 ∧ L = iter (wrQ H3.st) (List.replicate 32 0) j) ((4 - ·)) (0) ((List.replicate 32 0)) ⟨by omega, rfl⟩ ⟨rfl, rfl, rfl, rfl, trivial⟩ ⟨rfl, rfl, rfl, trivial⟩ rfl rfW rfW ?_
    rintro j L ⟨hj, hL⟩
    have hl : L.length = 32 := by rw [hL, iterB_len (wrQ_len _)]; rfl
    rcases Nat.lt_or_ge j 4 with h4 | h4
    · have hok : j + 1 ≤ 4 ∧ iter (wr8 (H3.st.getD j default) (8 * j)) L 8 = iter (wrQ H3.st) (List.replicate 32 0) (j + 1) := ⟨by omega, (wrQ_eq _ _ _).trans (by rw [iter, ← hL])⟩
      clear hL
      exact wk trueW trueW trueW
    · obtain rfl : j = 4 := by omega
      have hv1 : V.a (L.map bK) = V.a (R.map bK) := congrArg (fun z => V.a (List.map bK z)) (hL.trans ((outQ_eq _).symm.trans hs))
      clear hL
      exact wk trueW trueW trueW
end Sp
end Lf
end Go.Proofs.Ytnmjpbcbldenmaa

/- The sponge: the sum of a text, what is filled up; what is alive; nothing is lost in mixing. -/
namespace Go.Proofs.Ytnmjpbcbldenmaa
open Go.RowKit Rg
set_option linter.unusedVariables false
set_option maxRecDepth 100000
namespace Lf
def padZ (b : List UInt8) (i : Nat) : List UInt8 := b ++ [1] ++ List.replicate i 0
def padB (b : List UInt8) : List UInt8 := padZ b (31 - (b.length + 1) % 32) ++ [128]
theorem padZ_len (b : List UInt8) (i : Nat) : (padZ b i).length = b.length + 1 + i := by simp [padZ]; omega
theorem padB_len (b : List UInt8) : (padB b).length = b.length + 1 + (31 - (b.length + 1) % 32) + 1 := by simp [padB, padZ_len]
theorem padZ_succ (b : List UInt8) (i : Nat) : padZ b i ++ [UInt8.ofNat 0] = padZ b (i + 1) := by
  have e : [UInt8.ofNat 0] = [(0 : UInt8)] := rfl
  unfold padZ
  rw [e, List.append_assoc _ (List.replicate i 0), ← List.replicate_succ']
theorem padZ_zero (b : List UInt8) : b ++ [UInt8.ofNat 1] = padZ b 0 := by unfold padZ; rw [List.replicate_zero, List.append_nil]; rfl
theorem padB_eq (b : List UInt8) : padZ b (31 - (b.length + 1) % 32) ++ [UInt8.ofNat 128] = padB b := rfl
attribute [irreducible] padB padZ
theorem hs0_cells : hs0.cells = (List.replicate 8 (0 : UInt64)).map qK ++ ((List.replicate 32 (0 : UInt8)).map bK ++ [.k (.int .i64 0)]) := by unfold Hs.cells; rfl
namespace Sp
set_option maxHeartbeats 1000000 in
theorem Sum (l : List UInt8) (hl : l.length < 1073741824) : LF Try.prog 63 [.s none (l.map bK)] (fun _ => .a ((sumB l).map bK)) none := by
  have c1 := Write hs0 hs0_ok l hl
  rw [hs0_cells] at c1
  have k1 := writeH_ok hs0_ok l
  have e : sumB l = sumH (writeH hs0 l) := by unfold sumB; rfl
  rw [e]
  generalize writeH hs0 l = H at c1 k1
  have l2 : (sumH H).length = 32 := by unfold sumH; exact outQ_len _
  have c2 := HSum H k1
  generalize sumH H = R at c2 l2
  have hrf := refs_cells
  have hlen := cells_len k1
  refine LFx.mk' tt Try.func63 rfl rfl rfl (by kernel_rfl) rfl rfl fun F => ?_
  exact wk trueW trueW trueW
theorem alive_mix : ¬ mixQ (List.replicate 8 0) = List.replicate 8 0 := by decide +kernel
theorem alive_sum : ¬ sumB [] = List.replicate 32 0 := by decide +kernel
theorem alive_pad : (padB []).length = 32 := by rw [padB_len]; rfl
end Sp
end Lf
end Go.Proofs.Ytnmjpbcbldenmaa

/- The reference sponge, in plain Lean: what it comes to is what the sponge comes to. -/
namespace Go.Proofs.Ytnmjpbcbldenmaa
open Go.RowKit Rg
namespace Lf
/-! ### A turn by one, again and again -/
theorem rotN {n k : Nat} (hn : n < 2 ^ 64) (hk : k ≤ 64) : (n * 2 ^ k % 2 ^ 64 ||| n / 2 ^ (64 - k)) = (n % 2 ^ (64 - k)) * 2 ^ k + n / 2 ^ (64 - k) := by
  have e0 : (2 : Nat) ^ 64 = 2 ^ (64 - k) * 2 ^ k := by rw [← Nat.pow_add]; congr 1; omega
  have e : n * 2 ^ k % 2 ^ 64 = (n % 2 ^ (64 - k)) * 2 ^ k := by rw [e0, Nat.mul_mod_mul_right]
  have hq : n / 2 ^ (64 - k) < 2 ^ k := Nat.div_lt_of_lt_mul (by rw [← e0]; exact hn)
  rw [e]
  have := Nat.shiftLeft_add_eq_or_of_lt hq (n % 2 ^ (64 - k))
  rw [Nat.shiftLeft_eq] at this
  exact this.symm
theorem turn_arith {A B n : Nat} (hA : 0 < A) (hn : n < 2 * (A * B)) : (n % A) * (2 * B) + n / A = ((n % (2 * A)) * B + n / (2 * A)) * 2 % (2 * (A * B)) + ((n % (2 * A)) * B + n / (2 * A)) / (A * B) := by
  have e1 : n / (2 * A) = n / A / 2 := by rw [Nat.div_div_eq_div_mul, Nat.mul_comm]
  have e2 : n % (2 * A) = n % A + A * (n / A % 2) := by rw [Nat.mul_comm, Nat.mod_mul]
  rw [e1, e2]
  have hr := Nat.mod_lt n hA
  have hm : n / A < 2 * B := Nat.div_lt_of_lt_mul (by rw [show A * (2 * B) = 2 * (A * B) from by rw [Nat.mul_left_comm]]; exact hn)
  have hu : (n % A) * B + B ≤ A * B := by
    have := Nat.mul_le_mul_right B (show n % A + 1 ≤ A from hr)
    rwa [Nat.add_mul, Nat.one_mul] at this
  have e3 : (n % A + A * (n / A % 2)) * B = (n % A) * B + (A * B) * (n / A % 2) := by
    rw [Nat.add_mul, Nat.mul_assoc, Nat.mul_comm (n / A % 2) B, ← Nat.mul_assoc]
  have e4 : (n % A) * (2 * B) = 2 * ((n % A) * B) := by rw [Nat.mul_left_comm]
  rw [e3, e4]
  generalize (n % A) * B = u at *
  generalize n / A = m at *
  generalize A * B = C at *
  have h2 := Nat.mod_two_eq_zero_or_one m
  have hC : u + m / 2 < C := by omega
  rcases h2 with h | h
  · rw [h, Nat.mul_zero, Nat.add_zero, Nat.div_eq_of_lt hC, Nat.mod_eq_of_lt (by omega)]
    omega
  · rw [h, Nat.mul_one]
    have e5 : (u + C + m / 2) * 2 % (2 * C) = (u + m / 2) * 2 := by
      rw [show (u + C + m / 2) * 2 = (u + m / 2) * 2 + 2 * C from by omega, Nat.add_mod_right, Nat.mod_eq_of_lt (by omega)]
    have e6 : (u + C + m / 2) / C = 1 := by
      rw [show u + C + m / 2 = (u + m / 2) + C from by omega, Nat.add_div_right _ (by omega), Nat.div_eq_of_lt hC]
    rw [e5, e6]
    omega
theorem rotl_zero (x : UInt64) : (rotl x 0).toNat = x.toNat := by
  have h := x.toNat_lt
  rw [rotl_toNat, rotN h (by omega), Nat.sub_zero, Nat.pow_zero, Nat.mul_one, Nat.mod_eq_of_lt h, Nat.div_eq_of_lt h, Nat.add_zero]
theorem rotl_succ (x : UInt64) {k : Nat} (hk : k + 1 < 64) : (rotl x (k + 1)).toNat = (rotl x k).toNat * 2 % 2 ^ 64 + (rotl x k).toNat / 2 ^ 63 := by
  have h := x.toNat_lt
  rw [rotl_toNat, rotl_toNat, rotN h (by omega), rotN h (by omega)]
  have e1 : (2 : Nat) ^ (64 - k) = 2 * 2 ^ (63 - k) := by rw [show 64 - k = (63 - k) + 1 from by omega, Nat.pow_succ, Nat.mul_comm]
  have e2 : 64 - (k + 1) = 63 - k := by omega
  have e3 : (2 : Nat) ^ (k + 1) = 2 * 2 ^ k := by rw [Nat.pow_succ, Nat.mul_comm]
  have e4 : (2 : Nat) ^ 63 = 2 ^ (63 - k) * 2 ^ k := by rw [← Nat.pow_add]; congr 1; omega
  have e5 : (2 : Nat) ^ 64 = 2 * (2 ^ (63 - k) * 2 ^ k) := by rw [← e4]
  rw [e2, e1, e3, e4]
  conv => rhs; arg 1; rw [e5]
  exact turn_arith (Nat.two_pow_pos _) (by rw [← e5]; exact h)
/-! ### Bytes set in by or, and by exclusive or -/
theorem or_xor {x y i : Nat} (hx : x < 2 ^ i) : x ||| y * 2 ^ i = x ^^^ y * 2 ^ i := by
  apply Nat.eq_of_testBit_eq
  intro j
  rw [Nat.testBit_or, Nat.testBit_xor, Nat.testBit_mul_two_pow]
  by_cases h : i ≤ j
  · rw [Nat.testBit_lt_two_pow (Nat.lt_of_lt_of_le hx (Nat.pow_le_pow_right (by omega) h))]
    simp
  · simp [h]
def byteAt (b : UInt8) (i : Nat) : UInt64 := UInt64.ofNat (b.toNat * 2 ^ (8 * i) % 2 ^ 64)
def xorStep (l : List UInt8) (x : UInt64) (i : Nat) : UInt64 := x ^^^ byteAt (l.getD i default) i
theorem read_xor (l : List UInt8) : ∀ i, i ≤ 8 → iter (readStep l) 0 i = iter (xorStep l) 0 i ∧ (iter (readStep l) 0 i).toNat < 2 ^ (8 * i)
  | 0, _ => ⟨rfl, (by decide : (0 : UInt64).toNat < 2 ^ (8 * 0))⟩
  | i + 1, h => by
    obtain ⟨h1, h2⟩ := read_xor l i (by omega)
    have hb := (l.getD i default).toNat_lt
    have hlt : (l.getD i default).toNat * 2 ^ (8 * i) < 2 ^ (8 * (i + 1)) := by
      rw [show 8 * (i + 1) = 8 + 8 * i from by omega, Nat.pow_add]
      exact Nat.mul_lt_mul_of_pos_right (by simpa using hb) (Nat.two_pow_pos _)
    have hle : (2 : Nat) ^ (8 * (i + 1)) ≤ 2 ^ 64 := Nat.pow_le_pow_right (by omega) (by omega)
    have e : (byteAt (l.getD i default) i).toNat = (l.getD i default).toNat * 2 ^ (8 * i) := by
      unfold byteAt
      rw [Nat.mod_eq_of_lt (by omega)]
      exact UInt64.toNat_ofNat_of_lt (by show _ < 18446744073709551616; omega)
    have e0 : iter (readStep l) 0 (i + 1) = iter (readStep l) 0 i ||| byteAt (l.getD i default) i := rfl
    constructor
    · rw [e0]
      show _ = iter (xorStep l) 0 i ^^^ byteAt (l.getD i default) i
      rw [← h1]
      apply UInt64.toNat_inj.1
      rw [UInt64.toNat_or, UInt64.toNat_xor, e]
      exact or_xor h2
    · rw [e0, UInt64.toNat_or, e]
      exact Nat.or_lt_two_pow (Nat.lt_of_lt_of_le h2 (Nat.pow_le_pow_right (by omega) (by omega))) hlt
theorem readQ_xor (l : List UInt8) : readQ l = iter (xorStep l) 0 8 := by rw [readQ_eq]; exact (read_xor l 8 (by omega)).1
/-! ### A block taken in -/
theorem iter_add {σ : Type} (f : σ → Nat → σ) (s : σ) (m : Nat) : ∀ n, iter f s (m + n) = iter (fun s i => f s (m + i)) (iter f s m) n
  | 0 => rfl
  | n + 1 => by
    show f (iter f s (m + n)) (m + n) = f (iter (fun s i => f s (m + i)) (iter f s m) n) (m + n)
    rw [iter_add f s m n]
theorem iter_congr {σ : Type} {f g : σ → Nat → σ} {s : σ} : ∀ {n : Nat}, (∀ s i, i < n → f s i = g s i) → iter f s n = iter g s n
  | 0, _ => rfl
  | n + 1, h => by
    show f (iter f s n) n = g (iter g s n) n
    rw [iter_congr (n := n) fun s i hi => h s i (by omega), h _ n (by omega)]
def absB (p : List UInt8) (at_ : Nat) (S : List UInt64) (k : Nat) : List UInt64 := S.set (k / 8) (S.getD (k / 8) default ^^^ UInt64.ofNat ((p.getD (at_ + k) default).toNat * 2 ^ (k % 8 * 8) % 2 ^ 64))
theorem absB_len (p : List UInt8) (a : Nat) (S : List UInt64) (k : Nat) : (absB p a S k).length = S.length := by simp [absB]
theorem set_set' {S : List UInt64} {j : Nat} {x y : UInt64} : (S.set j x).set j y = S.set j y := List.set_set ..
theorem abs_part (p : List UInt8) (a : Nat) {S : List UInt64} {j : Nat} (hS : S.length = 8) (hj : j < 4) : ∀ i, i ≤ 8 → iter (fun s i => absB p a s (8 * j + i)) S i = S.set j (S.getD j default ^^^ iter (xorStep ((((p.drop a).take 32).drop (8 * j)).take (32 - 8 * j))) 0 i)
  | 0, _ => by
    show S = S.set j (S.getD j default ^^^ 0)
    rw [UInt64.xor_zero, set_get]
  | i + 1, h => by
    show absB p a (iter (fun s i => absB p a s (8 * j + i)) S i) (8 * j + i) = _
    rw [abs_part p a hS hj i (by omega)]
    unfold absB
    have e1 : (8 * j + i) / 8 = j := by omega
    have e2 : (8 * j + i) % 8 * 8 = 8 * i := by omega
    rw [e1, e2, getD_set (by omega), set_set']
    congr 1
    show _ = S.getD j default ^^^ (iter (xorStep ((((p.drop a).take 32).drop (8 * j)).take (32 - 8 * j))) 0 i ^^^ byteAt (((((p.drop a).take 32).drop (8 * j)).take (32 - 8 * j)).getD i default) i)
    rw [← UInt64.xor_assoc]
    congr 1
    unfold byteAt
    have e3 : ((((p.drop a).take 32).drop (8 * j)).take (32 - 8 * j)).getD i default = p.getD (a + (8 * j + i)) default := by
      simp only [List.getD_eq_getElem?_getD, List.getElem?_take, List.getElem?_drop]
      rw [if_pos (by omega), if_pos (by omega)]
    rw [e3]
theorem abs_all (p : List UInt8) (a : Nat) {S : List UInt64} (hS : S.length = 8) : iter (absB p a) S 32 = iter (xorIn ((p.drop a).take 32)) S 4 := by
  have step : ∀ (S : List UInt64) j, S.length = 8 → j < 4 → iter (fun s i => absB p a s (8 * j + i)) S 8 = xorIn ((p.drop a).take 32) S j := fun S j hS hj => by
    rw [abs_part p a hS hj 8 (by omega), ← readQ_xor]; rfl
  rw [show 32 = 8 + 24 from rfl, iter_add, show 24 = 8 + 16 from rfl, iter_add, show 16 = 8 + 8 from rfl, iter_add]
  have l0 : iter (absB p a) S 8 = xorIn ((p.drop a).take 32) S 0 := by
    rw [← step S 0 hS (by omega)]
    exact iter_congr fun s i _ => by rw [Nat.mul_zero, Nat.zero_add]
  have l1 : iter (fun s i => absB p a s (8 + i)) (iter (absB p a) S 8) 8 = xorIn ((p.drop a).take 32) (xorIn ((p.drop a).take 32) S 0) 1 := by
    rw [l0, ← step _ 1 (by rw [xorIn_len]; exact hS) (by omega)]
  have l2 : iter (fun s i => absB p a s (8 + (8 + i))) (iter (fun s i => absB p a s (8 + i)) (iter (absB p a) S 8) 8) 8 = xorIn ((p.drop a).take 32) (xorIn ((p.drop a).take 32) (xorIn ((p.drop a).take 32) S 0) 1) 2 := by
    rw [l1, ← step _ 2 (by rw [xorIn_len, xorIn_len]; exact hS) (by omega)]
    exact iter_congr fun s i _ => by rw [show 8 + (8 + i) = 8 * 2 + i from by omega]
  rw [l2]
  have l3 := step (xorIn ((p.drop a).take 32) (xorIn ((p.drop a).take 32) (xorIn ((p.drop a).take 32) S 0) 1) 2) 3 (by rw [xorIn_len, xorIn_len, xorIn_len]; exact hS) (by omega)
  have l4 : iter (fun s i => absB p a s (8 + (8 + (8 + i)))) (xorIn ((p.drop a).take 32) (xorIn ((p.drop a).take 32) (xorIn ((p.drop a).take 32) S 0) 1) 2) 8 = xorIn ((p.drop a).take 32) (xorIn ((p.drop a).take 32) (xorIn ((p.drop a).take 32) (xorIn ((p.drop a).take 32) S 0) 1) 2) 3 := by
    rw [← l3]
    exact iter_congr fun s i _ => by rw [show 8 + (8 + (8 + i)) = 8 * 3 + i from by omega]
  exact l4
/-! ### A text taken in, block by block -/
theorem takeH_eq (h : Hs) (x : UInt8) : takeH h x = if h.n + 1 < 32 then ⟨h.st, h.pt.set h.n x, h.n + 1⟩ else ⟨mixQ (iter (xorIn (h.pt.set h.n x)) h.st 4), h.pt.set h.n x, 0⟩ := by unfold takeH; rfl
theorem writeH_nil (h : Hs) : writeH h [] = h := by unfold writeH; rfl
theorem writeH_snoc (h : Hs) (l : List UInt8) (x : UInt8) : writeH h (l ++ [x]) = takeH (writeH h l) x := by unfold writeH; rw [List.foldl_append]; rfl
theorem write_part {S : List UInt64} {P B : List UInt8} (hP : P.length = 32) (hB : B.length = 32) : ∀ m, m ≤ 31 → writeH ⟨S, P, 0⟩ (B.take m) = ⟨S, B.take m ++ P.drop m, m⟩
  | 0, _ => writeH_nil _
  | m + 1, h => by
    have hm : m < B.length := by omega
    rw [List.take_succ_eq_append_getElem hm, writeH_snoc, write_part hP hB m (by omega), takeH_eq, if_pos (by show m + 1 < 32; omega)]
    congr 1
    show (B.take m ++ P.drop m).set m B[m] = B.take m ++ [B[m]] ++ P.drop (m + 1)
    have hl : (B.take m).length = m := by rw [List.length_take]; omega
    have hp : m < P.length := by omega
    rw [List.set_append_right _ _ (by omega), hl, Nat.sub_self, List.drop_eq_getElem_cons hp, List.set_cons_zero, List.append_assoc]
    rfl
theorem write_block {S : List UInt64} {P B : List UInt8} (hP : P.length = 32) (hB : B.length = 32) : writeH ⟨S, P, 0⟩ B = ⟨mixQ (iter (xorIn B) S 4), B, 0⟩ := by
  have hm : 31 < B.length := by omega
  have e : B = B.take 31 ++ [B[31]] := by
    have := List.take_succ_eq_append_getElem hm
    rw [← this, List.take_of_length_le (by omega)]
  have hl : (B.take 31).length = 31 := by rw [List.length_take]; omega
  have e2 : (B.take 31 ++ P.drop 31).set 31 B[31] = B := by
    have hp : 31 < P.length := by omega
    rw [List.set_append_right _ _ (by omega), hl, Nat.sub_self, List.drop_eq_getElem_cons hp, List.set_cons_zero, List.drop_of_length_le (by omega)]
    exact e.symm
  have h1 : writeH ⟨S, P, 0⟩ B = takeH (writeH ⟨S, P, 0⟩ (B.take 31)) B[31] := by
    rw [← writeH_snoc, ← e]
  rw [h1, write_part hP hB 31 (by omega), takeH_eq, if_neg (by show ¬ 31 + 1 < 32; omega)]
  simp only [e2]
def blkQ (p : List UInt8) (S : List UInt64) (i : Nat) : List UInt64 := mixQ (iter (absB p (32 * i)) S 32)
theorem blkQ_len (p : List UInt8) (S : List UInt64) (i : Nat) : (blkQ p S i).length = S.length := by unfold blkQ; rw [mixQ_len, iter_len (absB_len p _)]
theorem writeH_app' (h : Hs) (a b : List UInt8) : writeH h (a ++ b) = writeH (writeH h a) b := by unfold writeH; rw [List.foldl_append]
theorem write_blocks {p : List UInt8} {m : Nat} (hp : p.length = 32 * m) : ∀ i, i ≤ m → ∃ P : List UInt8, P.length = 32 ∧ writeH hs0 (p.take (32 * i)) = ⟨iter (blkQ p) (List.replicate 8 0) i, P, 0⟩
  | 0, _ => ⟨List.replicate 32 0, rfl, writeH_nil _⟩
  | i + 1, h => by
    obtain ⟨P, h1, h2⟩ := write_blocks hp i (by omega)
    have hB : ((p.drop (32 * i)).take 32).length = 32 := by rw [List.length_take, List.length_drop]; omega
    have e : p.take (32 * (i + 1)) = p.take (32 * i) ++ (p.drop (32 * i)).take 32 := by rw [show 32 * (i + 1) = 32 * i + 32 from by omega, List.take_add]
    refine ⟨(p.drop (32 * i)).take 32, hB, ?_⟩
    rw [e, writeH_app', h2, write_block h1 hB, ← abs_all p (32 * i) ((iter_len (blkQ_len p) _ i).trans rfl)]
    rfl
theorem writeH_n : ∀ (l : List UInt8), (writeH hs0 l).n = l.length % 32 := by
  intro l
  have : ∀ k, k ≤ l.length → (writeH hs0 (l.take k)).n = k % 32 := by
    intro k
    induction k with
    | zero => intro _; rw [List.take_zero, writeH_nil]; rfl
    | succ k ih =>
      intro h
      have hk : k < l.length := h
      rw [List.take_succ_eq_append_getElem hk, writeH_snoc, takeH_eq]
      have h1 := ih (by omega)
      split
      · show (writeH hs0 (l.take k)).n + 1 = _
        omega
      · show 0 = _
        omega
  have h := this l.length (Nat.le_refl _)
  rwa [List.take_length] at h
theorem padN_eq (h : Hs) (i : Nat) : padN h i = writeH h (List.replicate i 0) := by
  unfold padN
  induction i with
  | zero => exact (writeH_nil h).symm
  | succ i ih =>
    rw [List.replicate_succ', writeH_snoc, ← ih]
    rfl
theorem sumB_pad (b : List UInt8) : sumB b = outQ (writeH hs0 (padB b)).st := by
  have e1 : sumB b = sumH (writeH hs0 b) := by unfold sumB; rfl
  have e2 : ∀ h, sumH h = outQ (takeH (padH h) 128).st := fun h => by unfold sumH; rfl
  have e3 : ∀ h, padH h = padN (takeH h 1) (31 - (takeH h 1).n) := fun h => by unfold padH; rfl
  have hn : (takeH (writeH hs0 b) 1).n = (b.length + 1) % 32 := by
    rw [← writeH_snoc, writeH_n, List.length_append]; rfl
  have e5 : padB b = b ++ [1] ++ List.replicate (31 - (b.length + 1) % 32) 0 ++ [128] := by unfold padB padZ; rfl
  rw [e5, e1, e2, e3, hn, padN_eq, ← writeH_snoc hs0 b 1, ← writeH_app' hs0 (b ++ [1]), ← writeH_snoc hs0 _ 128]
def stR (p : List UInt8) (i : Nat) : List UInt64 := iter (blkQ p) (List.replicate 8 0) i
def outStep (S : List UInt64) (L : List UInt8) (k : Nat) : List UInt8 := L.set k (UInt8.ofNat ((S.getD (k / 8) default).toNat / 2 ^ (k % 8 * 8)))
theorem outStep_len (S : List UInt64) (L : List UInt8) (k : Nat) : (outStep S L k).length = L.length := by simp [outStep]
theorem wrQ_eq' (st : List UInt64) (L : List UInt8) (j : Nat) : wrQ st L j = iter (wr8 (st.getD j default) (8 * j)) L 8 := by unfold wrQ; rfl
theorem outQ_step (S : List UInt64) : outQ S = iter (outStep S) (List.replicate 32 0) 32 := by
  have e0 : outQ S = iter (wrQ S) (List.replicate 32 0) 4 := by unfold outQ; rfl
  have step : ∀ L j, wrQ S L j = iter (fun L i => outStep S L (8 * j + i)) L 8 := fun L j => by
    rw [wrQ_eq']
    exact iter_congr fun L i hi => by
      unfold wr8 outStep
      rw [show (8 * j + i) / 8 = j from by omega, show (8 * j + i) % 8 * 8 = 8 * i from by omega]
  have f0 : ∀ L : List UInt8, iter (outStep S) L 8 = wrQ S L 0 := fun L => by rw [step]; exact iter_congr fun s i _ => by rw [Nat.mul_zero, Nat.zero_add]
  have f1 : ∀ L : List UInt8, iter (fun L i => outStep S L (8 + i)) L 8 = wrQ S L 1 := fun L => by rw [step]
  have f2 : ∀ L : List UInt8, iter (fun L i => outStep S L (8 + (8 + i))) L 8 = wrQ S L 2 := fun L => by rw [step]; exact iter_congr fun s i _ => by rw [show 8 + (8 + i) = 8 * 2 + i from by omega]
  have f3 : ∀ L : List UInt8, iter (fun L i => outStep S L (8 + (8 + (8 + i)))) L 8 = wrQ S L 3 := fun L => by rw [step]; exact iter_congr fun s i _ => by rw [show 8 + (8 + (8 + i)) = 8 * 3 + i from by omega]
  rw [e0, show 32 = 8 + 24 from rfl, iter_add, show 24 = 8 + 16 from rfl, iter_add, show 16 = 8 + 8 from rfl, iter_add, f0, f1, f2, f3]
  rfl
theorem sumB_ref (b : List UInt8) {m : Nat} (hm : (padB b).length = 32 * m) : sumB b = iter (outStep (stR (padB b) m)) (List.replicate 32 0) 32 := by
  rw [← outQ_step, sumB_pad]
  obtain ⟨P, _, h⟩ := write_blocks hm m (Nat.le_refl _)
  rw [List.take_of_length_le (by omega)] at h
  rw [h]
  rfl
end Lf
end Go.Proofs.Ytnmjpbcbldenmaa

/- The reference sponge: walks. -/
namespace Go.Proofs.Ytnmjpbcbldenmaa
open Go.RowKit Rg
set_option linter.unusedVariables false
set_option maxRecDepth 100000
namespace Lf
namespace Sr
theorem turnUp (x : UInt64) (k : Nat) (hk : k < 64) : LF Try.prog 106 [qK x, .k (.int .i64 (k : Int))] (fun _ => qK (rotl x k)) none := by
  have h0 := x.toNat_lt
  unfold qK
  refine LFx.mk' tt Try.func106 rfl rfl rfl (by kernel_rfl) rfl rfl fun F => ?_
  refine wk ?_ trueW trueW
  refine LC.loop2 (fun i X => [(0, uK X), (5, .k (.int .i64 ((k : Nat) : Int))), (6, .k (.int .i64 ((i : Nat) : Int)))]) (fun i X => []) (fun i X => i ≤ k ∧ X = (rotl x i).toNat) ((k - ·)) (0) (x.toNat) ⟨by omega, (rotl_zero x).symm⟩ ⟨rfl, rfl, rfl, trivial⟩ trivial rfl rfW rfW ?_
  rintro i X ⟨hi, hX⟩
  have hX' : X < 18446744073709551616 := by rw [hX]; exact (rotl x i).toNat_lt
  by_cases h : i < k
  · have hr := rotl_succ x (k := i) (by omega)
    rw [← hX] at hr
    have w1 : IntKind.u64.wrap ((X : Int) * 2) = ((X * 2 % 2 ^ 64 : Nat) : Int) := mul_u64m
    have hlt : X * 2 % 2 ^ 64 + X / 9223372036854775808 < 18446744073709551616 := by
      have : X * 2 % 2 ^ 64 + X / 2 ^ 63 < 18446744073709551616 := by rw [← hr]; exact (rotl x (i + 1)).toNat_lt
      simpa using this
    have hok : i + 1 ≤ k ∧ X * 2 % 2 ^ 64 + X / 9223372036854775808 = (rotl x (i + 1)).toNat := ⟨h, by rw [hr]⟩
    have hd : X / 9223372036854775808 < 18446744073709551616 := Nat.lt_of_le_of_lt (Nat.div_le_self _ _) hX'
    clear hr hX
    generalize X * 2 % 2 ^ 64 = y at *
    exact wk trueW trueW trueW
  · obtain rfl : i = k := by omega
    subst hX
    exact wk trueW trueW trueW
theorem SMix (s : List UInt64) (hs : s.length = 8) : LF Try.prog 95 [.a (s.map qK)] (fun _ => .a ((mixQ s).map qK)) none := by
  have c1 := turnUp
  refine LFx.mk' tt Try.func95 rfl rfl rfl (by kernel_rfl) rfl rfl fun F => ?_
  refine wk ?_ trueW trueW
  refine LC.loop2 (fun r S => [(1, .p 1 0), (2, .p 2 0), (3, .sb 1 0 8 8), (4, uK (r + 1))]) (fun r S => [(1, .b (S.map qK)), (2, .b (List.replicate 8 (.k (.int .u64 0))))]) (fun r S => r ≤ 12 ∧ S = iter qround s r) ((12 - ·)) (0) (s) ⟨by omega, rfl⟩ ⟨rfl, rfl, rfl, rfl, trivial⟩ ⟨rfl, rfl, trivial⟩ rfl rfW rfW ?_
  rintro r S ⟨hr, hS⟩
  have hl : S.length = 8 := hS ▸ (iter_len qround_len s r).trans hs
  by_cases h : r < 12
  · refine wk ?_ trueW trueW
    refine LC.loop5 (fun i S2 n (_u3 : Unit) (_u4 : Unit) => [(1, .p 1 0), (2, .p 2 0), (3, .sb 1 0 8 8), (4, uK (r + 1)), (5, .k (.int .i64 ((i : Nat) : Int))), (6, .k (.int .i64 ((n : Nat) : Int)))]) (fun i S2 n (_u3 : Unit) (_u4 : Unit) => [(1, .b (S2.map qK)), (2, .b (List.replicate 8 (.k (.int .u64 0))))]) (fun i S2 n (_u3 : Unit) (_u4 : Unit) => i ≤ 8 ∧ S2 = iter qstep (qkey S r) i ∧ n = 5 * i + 3) ((8 - ·)) (0) (qkey S r) (3) () () ⟨by omega, rfl, rfl⟩ ⟨rfl, rfl, rfl, rfl, rfl, rfl, trivial⟩ ⟨rfl, rfl, trivial⟩ rfl rfW rfW ?_
    rintro i S2 n _ _ ⟨hi, hS2, hn⟩
    have hl2 : S2.length = 8 := hS2 ▸ (iter_len qstep_len _ i).trans ((qkey_len S r).trans hl)
    by_cases h2 : i < 8
    · have hok : i + 1 ≤ 8 ∧ S2.set (0 + i) (S2.getD (0 + i) default + rotl (S2.getD (0 + (i + 1) % 8) default ^^^ S2.getD (0 + (i + 5) % 8) default) n) = iter qstep (qkey S r) (i + 1) ∧ n + 5 = 5 * (i + 1) + 3 := ⟨h2, by simp only [Nat.zero_add]; rw [hS2, hn]; rfl, by omega⟩
      have w1 : IntKind.i64.wrap (((BitVec.ofInt IntKind.i64.bits ((i + 1 : Nat) : Int) &&& BitVec.ofInt IntKind.i64.bits 7).toNat : Nat) : Int) = (((i + 1) % 8 : Nat) : Int) := by
        rw [and_i64r (b := 7) (by omega) (by decide)]
        exact congrArg _ (Nat.and_two_pow_sub_one_eq_mod (n := 3) (i + 1))
      have w2 : IntKind.i64.wrap (((BitVec.ofInt IntKind.i64.bits ((i + 5 : Nat) : Int) &&& BitVec.ofInt IntKind.i64.bits 7).toNat : Nat) : Int) = (((i + 5) % 8 : Nat) : Int) := by
        rw [and_i64r (b := 7) (by omega) (by decide)]
        exact congrArg _ (Nat.and_two_pow_sub_one_eq_mod (n := 3) (i + 5))
      have m1 : (i + 1) % 8 < 8 := Nat.mod_lt _ (by decide)
      have m2 : (i + 5) % 8 < 8 := Nat.mod_lt _ (by decide)
      have m3 : n < 64 := by omega
      clear hS2 hn
      exact wk trueW trueW trueW
    · obtain rfl : i = 8 := by omega
      have hok : r + 1 ≤ 12 ∧ S2 = iter qround s (r + 1) := ⟨h, by rw [hS2, hS]; exact (show iter qround s (r + 1) = qround (iter qround s r) r from rfl).symm⟩
      clear hS2 hS
      exact wk trueW trueW trueW
  · obtain rfl : r = 12 := by omega
    have hv : mixQ s = S := by rw [hS, mixQ_eq]
    rw [hv]
    clear hv hS
    exact wk trueW trueW trueW
end Sr
end Lf
end Go.Proofs.Ytnmjpbcbldenmaa

/- The reference sponge: padding, sums. -/
namespace Go.Proofs.Ytnmjpbcbldenmaa
open Go.RowKit Rg
set_option linter.unusedVariables false
set_option maxRecDepth 100000
namespace Lf
namespace Sr
/-- How many blocks. -/
def blocks (b : List UInt8) : Nat := b.length / 32 + 1 + (if b.length % 32 = 31 then 1 else 0)
theorem pad_blocks (b : List UInt8) : (padB b).length = 32 * blocks b := by
  rw [padB_len]
  unfold blocks
  split <;> omega
theorem pad_set (b : List UInt8) : ((put (List.replicate (32 * blocks b) 0) 0 b).set b.length (UInt8.ofNat 1)).set (32 * blocks b - 1) (UInt8.ofNat 128) = padB b := by
  have hl : b.length + 2 ≤ 32 * blocks b := by unfold blocks; split <;> omega
  have hp := pad_blocks b
  rw [padB_len] at hp
  have e5 : padB b = b ++ [1] ++ List.replicate (31 - (b.length + 1) % 32) 0 ++ [128] := by unfold padB padZ; rfl
  rw [e5]
  generalize 31 - (b.length + 1) % 32 = z at *
  have e1 : put (List.replicate (32 * blocks b) 0) 0 b = b ++ List.replicate (32 * blocks b - b.length) 0 := by
    unfold put
    rw [List.take_zero, List.nil_append, Nat.zero_add, List.drop_replicate]
  have e2 : 32 * blocks b - b.length = z + 1 + 1 := by omega
  rw [e1, e2, List.replicate_succ, List.set_append_right _ _ (Nat.le_refl _), Nat.sub_self, List.set_cons_zero]
  have e3 : b ++ (UInt8.ofNat 1) :: List.replicate (z + 1) 0 = (b ++ [1] ++ List.replicate z 0) ++ [0] := by
    rw [List.replicate_succ']
    simp
  rw [e3, List.set_append_right _ _ (by simp; omega)]
  have e4 : 32 * blocks b - 1 - (b ++ [1] ++ List.replicate z 0).length = 0 := by simp; omega
  rw [e4]
  rfl
theorem SPad (b : List UInt8) (hb : b.length < 1073741824) : LF Try.prog 94 [.s none (b.map bK)] (fun _ => .s none ((padB b).map bK)) none := by
  have hp := pad_set b
  have hfz : FrzAt 2 17 := ⟨⟩
  have hl : b.length + 2 ≤ 32 * blocks b := by unfold blocks; split <;> omega
  have hm : 32 * blocks b ≤ b.length + 64 := by unfold blocks; split <;> omega
  have q1 : (put (List.replicate (32 * blocks b) (0 : UInt8)) 0 b).length = 32 * blocks b := by rw [put_len (by simp; omega)]; simp
  have q0 : (List.replicate (32 * blocks b) (0 : UInt8)).length = 32 * blocks b := List.length_replicate
  by_cases h : b.length % 32 = 31
  · have e : 32 * blocks b = (b.length / 32 + 1) * 32 + 32 := by unfold blocks; rw [if_pos h]; omega
    rw [e] at hp hl hm q1 q0
    have q2 : (((put (List.replicate ((b.length / 32 + 1) * 32 + 32) (0 : UInt8)) 0 b).set b.length (UInt8.ofNat 1)).set ((b.length / 32 + 1) * 32 + 32 - 1) (UInt8.ofNat 128)).length = (b.length / 32 + 1) * 32 + 32 := by rw [List.length_set, List.length_set]; exact q1
    rw [← hp]
    clear hp e
    refine LFx.mk' tt Try.func94 rfl rfl rfl (by kernel_rfl) rfl rfl fun F => ?_
    exact wk trueW trueW trueW
  · have e : 32 * blocks b = (b.length / 32 + 1) * 32 := by unfold blocks; rw [if_neg h]; omega
    rw [e] at hp hl hm q1 q0
    have q2 : (((put (List.replicate ((b.length / 32 + 1) * 32) (0 : UInt8)) 0 b).set b.length (UInt8.ofNat 1)).set ((b.length / 32 + 1) * 32 - 1) (UInt8.ofNat 128)).length = (b.length / 32 + 1) * 32 := by rw [List.length_set, List.length_set]; exact q1
    rw [← hp]
    clear hp e
    refine LFx.mk' tt Try.func94 rfl rfl rfl (by kernel_rfl) rfl rfl fun F => ?_
    exact wk trueW trueW trueW
end Sr
end Lf
end Go.Proofs.Ytnmjpbcbldenmaa

/- The reference sponge: sums. -/
namespace Go.Proofs.Ytnmjpbcbldenmaa
open Go.RowKit Rg
set_option linter.unusedVariables false
set_option maxRecDepth 100000
namespace Lf
namespace Sr
theorem stR_len (p : List UInt8) (i : Nat) : (stR p i).length = 8 := by unfold stR; rw [iter_len (blkQ_len p)]; rfl
theorem sum_ref (b : List UInt8) : iter (outStep (stR (padB b) (blocks b))) (List.replicate 32 0) 32 = sumB b := (sumB_ref b (pad_blocks b)).symm
set_option maxHeartbeats 4000000 in
theorem SSum (b : List UInt8) (hb : b.length < 1073741824) : LF Try.prog 70 [.s none (b.map bK)] (fun _ => .a ((sumB b).map bK)) none := by
  have c1 := SPad b hb
  have hp := pad_blocks b
  have hs := fun _ : Unit => sum_ref b
  have hm : 32 * blocks b ≤ b.length + 64 := by unfold blocks; split <;> omega
  generalize blocks b = m at *
  generalize padB b = p at *
  generalize sumB b = out at *
  have c2 := SMix
  refine LFx.mk' tt Try.func70 rfl rfl rfl (by kernel_rfl) rfl rfl fun F => ?_
  refine wk ?_ trueW trueW
  refine LC.loop5 (fun i S a (_u3 : Unit) (_u4 : Unit) => [(2, .p 2 0), (3, .p 3 0), (4, .s none (p.map bK)), (5, .k (.int .i64 ((a : Nat) : Int)))]) (fun i S a (_u3 : Unit) (_u4 : Unit) => [(2, .b (List.replicate 32 (.k (.int .u8 0)))), (3, .b (S.map qK))]) (fun i S a (_u3 : Unit) (_u4 : Unit) => i ≤ m ∧ S = stR p i ∧ a = 32 * i) ((m - ·)) (0) (List.replicate 8 0) (0) () () ⟨by omega, rfl, rfl⟩ ⟨rfl, rfl, rfl, rfl, trivial⟩ ⟨rfl, rfl, trivial⟩ rfl rfW rfW ?_
  rintro i S a _ _ ⟨hi, hS, ha⟩
  have hl : S.length = 8 := by rw [hS]; exact stR_len p i
  by_cases h : i < m
  · refine wk ?_ trueW trueW
    refine LC.loop2 (fun k S2 => [(2, .p 2 0), (3, .p 3 0), (4, .s none (p.map bK)), (5, .k (.int .i64 ((a : Nat) : Int))), (17, .k (.int .i64 ((k : Nat) : Int)))]) (fun k S2 => [(2, .b (List.replicate 32 (.k (.int .u8 0)))), (3, .b (S2.map qK))]) (fun k S2 => k ≤ 32 ∧ S2 = iter (absB p a) S k) ((32 - ·)) (0) (S) ⟨by omega, rfl⟩ ⟨rfl, rfl, rfl, rfl, rfl, trivial⟩ ⟨rfl, rfl, trivial⟩ rfl rfW rfW ?_
    rintro k S2 ⟨hk, hS2⟩
    have hl2 : S2.length = 8 := by rw [hS2, iter_len (absB_len p a)]; exact hl
    by_cases h2 : k < 32
    · have hok : k + 1 ≤ 32 ∧ S2.set (k / 8) (S2.getD (k / 8) default ^^^ UInt64.ofNat ((p.getD (a + k) default).toNat * 2 ^ (k % 8 * 8) % 2 ^ 64)) = iter (absB p a) S (k + 1) := ⟨h2, by rw [hS2]; rfl⟩
      have q1 : k / 8 < 8 := by omega
      have q2 : k % 8 * 8 ≤ 56 := by omega
      have q3 := (p.getD (a + k) default).toNat_lt
      clear hS hS2 hs
      exact wk trueW trueW trueW
    · obtain rfl : k = 32 := by omega
      have c3 := SMix S2 hl2
      have hok : i + 1 ≤ m ∧ mixQ S2 = stR p (i + 1) ∧ a + 32 = 32 * (i + 1) := ⟨h, by rw [hS2, hS, ha]; rfl, by omega⟩
      have hml : (mixQ S2).length = 8 := (mixQ_len S2).trans hl2
      clear hS hS2 hs c2
      generalize mixQ S2 = S3 at *
      exact wk trueW trueW trueW
  · obtain rfl : i = m := by omega
    have hs' : ∀ _ : Unit, iter (outStep S) (List.replicate 32 0) 32 = out := fun u => by rw [hS]; exact hs u
    clear hs hS
    refine wk ?_ trueW trueW
    refine LC.loop2 (fun k L => [(2, .p 2 0), (3, .p 3 0), (7, .p 7 0), (40, .k (.int .i64 ((k : Nat) : Int)))]) (fun k L => [(2, .b (List.replicate 32 (.k (.int .u8 0)))), (3, .b (S.map qK)), (7, .b (L.map bK))]) (fun k L => k ≤ 32 ∧ L = iter (outStep S) (List.replicate 32 0) k) ((32 - ·)) (0) ((List.replicate 32 0)) ⟨by omega, rfl⟩ ⟨rfl, rfl, rfl, rfl, trivial⟩ ⟨rfl, rfl, rfl, trivial⟩ rfl rfW rfW ?_
    rintro k L ⟨hk, hL⟩
    have hlL : L.length = 32 := by rw [hL, iterB_len (outStep_len S)]; rfl
    by_cases h2 : k < 32
    · have hok : k + 1 ≤ 32 ∧ L.set k (UInt8.ofNat ((S.getD (k / 8) default).toNat / 2 ^ (k % 8 * 8))) = iter (outStep S) (List.replicate 32 0) (k + 1) := ⟨h2, by rw [hL]; rfl⟩
      have q1 : k / 8 < 8 := by omega
      have q2 : k % 8 * 8 ≤ 56 := by omega
      clear hL hs'
      exact wk trueW trueW trueW
    · obtain rfl : k = 32 := by omega
      rw [hs' ()] at hL
      rw [← hL]
      clear hL hs'
      exact wk trueW trueW trueW
end Sr
end Lf
end Go.Proofs.Ytnmjpbcbldenmaa

/- Numbers by their digits, the greatest first: lists without noughts ahead are one for each number, and are ordered as the numbers are. Plain Lean. -/
namespace Go.Proofs.Ytnmjpbcbldenmaa
namespace Ps
def pos (B : Nat) : List Nat → Nat
  | [] => 0
  | a :: l => a * B ^ l.length + pos B l
def NL (l : List Nat) : Prop := l.head? ≠ some 0
def lexN : List Nat → List Nat → Bool
  | a :: l, b :: m => decide (a < b) || (decide (a = b) && lexN l m)
  | [], _ :: _ => true
  | _, [] => false
theorem pos_append (B : Nat) (l m : List Nat) : pos B (l ++ m) = pos B l * B ^ m.length + pos B m := by
  induction l with
  | nil => simp [pos]
  | cons a l ih =>
    simp only [List.cons_append, pos, ih, List.length_append, Nat.pow_add, Nat.add_mul, Nat.mul_assoc, Nat.add_assoc]
theorem pos_lt {B : Nat} {l : List Nat} (h : ∀ a ∈ l, a < B) : pos B l < B ^ l.length := by
  induction l with
  | nil => simp [pos]
  | cons a l ih =>
    have h1 := ih fun x hx => h x (by simp [hx])
    have h2 : (a + 1) * B ^ l.length ≤ B * B ^ l.length := Nat.mul_le_mul_right _ (h a (by simp))
    simp only [pos, List.length_cons, Nat.pow_succ]
    rw [Nat.mul_comm (B ^ l.length) B]
    rw [Nat.add_mul, Nat.one_mul] at h2
    omega
theorem pos_ge {B : Nat} {a : Nat} {l : List Nat} (h : a ≠ 0) : B ^ l.length ≤ pos B (a :: l) := by
  simp only [pos]
  have : 1 * B ^ l.length ≤ a * B ^ l.length := Nat.mul_le_mul_right _ (by omega)
  omega
theorem pos_lex {B : Nat} : ∀ {l m : List Nat}, l.length = m.length → (∀ a ∈ l, a < B) → (∀ a ∈ m, a < B) → (pos B l < pos B m ↔ lexN l m = true)
  | [], [], _, _, _ => by simp [pos, lexN]
  | a :: l, b :: m, hl, h1, h2 => by
    have hl' : l.length = m.length := by simpa using hl
    have ih := pos_lex hl' (fun x hx => h1 x (by simp [hx])) (fun x hx => h2 x (by simp [hx]))
    have k1 := pos_lt (B := B) (l := l) fun x hx => h1 x (by simp [hx])
    have k2 := pos_lt (B := B) (l := m) fun x hx => h2 x (by simp [hx])
    simp only [pos, lexN, Bool.or_eq_true, Bool.and_eq_true, decide_eq_true_eq, ← ih]
    rw [← hl'] at k2 ⊢
    generalize B ^ l.length = p at *
    rcases Nat.lt_trichotomy a b with h | h | h
    · have := Nat.mul_le_mul_right p (Nat.succ_le_of_lt h)
      rw [Nat.succ_mul] at this
      exact ⟨fun _ => .inl h, fun _ => by omega⟩
    · subst h
      exact ⟨fun k => .inr ⟨rfl, by omega⟩, fun k => by rcases k with k | k <;> omega⟩
    · have := Nat.mul_le_mul_right p (Nat.succ_le_of_lt h)
      rw [Nat.succ_mul] at this
      exact ⟨fun k => by omega, fun k => by rcases k with k | k <;> omega⟩
  | [], _ :: _, hl, _, _ => by simp at hl
  | _ :: _, [], hl, _, _ => by simp at hl
theorem pos_len {B : Nat} {l m : List Nat} (hB : 0 < B) (hl : l.length < m.length) (h1 : ∀ a ∈ l, a < B) (hm : NL m) : pos B l < pos B m := by
  cases m with
  | nil => simp at hl
  | cons b m =>
    have h2 : b ≠ 0 := fun e => hm (by simp [e])
    have := pos_ge (B := B) (l := m) h2
    have k := pos_lt h1
    have : B ^ l.length ≤ B ^ m.length := Nat.pow_le_pow_right hB (by simp at hl; omega)
    omega
theorem pos_order {B : Nat} {l m : List Nat} (hB : 0 < B) (h1 : ∀ a ∈ l, a < B) (h2 : ∀ a ∈ m, a < B) (k1 : NL l) (k2 : NL m) : pos B l < pos B m ↔ l.length < m.length ∨ (l.length = m.length ∧ lexN l m = true) := by
  rcases Nat.lt_trichotomy l.length m.length with h | h | h
  · exact ⟨fun _ => .inl h, fun _ => pos_len hB h h1 k2⟩
  · rw [pos_lex h h1 h2]
    exact ⟨fun k => .inr ⟨h, k⟩, fun k => by rcases k with k | k <;> first | omega | exact k.2⟩
  · have := pos_len hB h h2 k1
    exact ⟨fun k => by omega, fun k => by omega⟩
theorem lexN_irr (l : List Nat) : lexN l l = false := by induction l <;> simp [lexN, *]
theorem lexN_eq : ∀ {l m : List Nat}, l.length = m.length → lexN l m = false → lexN m l = false → l = m
  | [], [], _, _, _ => rfl
  | a :: l, b :: m, hl, h1, h2 => by
    simp only [lexN, Bool.or_eq_false_iff, Bool.and_eq_false_iff, decide_eq_false_iff_not] at h1 h2
    obtain rfl : a = b := by omega
    rw [lexN_eq (l := l) (m := m) (by simpa using hl) (by rcases h1.2 with h | h; exact absurd rfl h; exact h) (by rcases h2.2 with h | h; exact absurd rfl h; exact h)]
  | [], _ :: _, hl, _, _ => by simp at hl
  | _ :: _, [], hl, _, _ => by simp at hl
theorem pos_inj {B : Nat} {l m : List Nat} (hB : 0 < B) (h1 : ∀ a ∈ l, a < B) (h2 : ∀ a ∈ m, a < B) (k1 : NL l) (k2 : NL m) (h : pos B l = pos B m) : l = m := by
  have e1 := pos_order hB h1 h2 k1 k2
  have e2 := pos_order hB h2 h1 k2 k1
  have n1 : ¬ (l.length < m.length ∨ (l.length = m.length ∧ lexN l m = true)) := fun h' => by have := e1.2 h'; omega
  have n2 : ¬ (m.length < l.length ∨ (m.length = l.length ∧ lexN m l = true)) := fun h' => by have := e2.2 h'; omega
  have hl : l.length = m.length := by omega
  refine lexN_eq hl ?_ ?_
  · rw [← Bool.not_eq_true]; exact fun h' => n1 (.inr ⟨hl, h'⟩)
  · rw [← Bool.not_eq_true]; exact fun h' => n2 (.inr ⟨hl.symm, h'⟩)
/-- Without noughts ahead. -/
def strip (l : List UInt8) : List UInt8 := l.dropWhile (· == 0)
def nat8 (l : List UInt8) : List Nat := l.map UInt8.toNat
theorem nat8_lt (l : List UInt8) : ∀ a ∈ nat8 l, a < 256 := fun a ha => by
  obtain ⟨x, _, rfl⟩ := List.mem_map.1 ha
  exact x.toNat_lt
theorem nat8_inj {l m : List UInt8} (h : nat8 l = nat8 m) : l = m := by
  induction l generalizing m with
  | nil => cases m with
    | nil => rfl
    | cons _ _ => simp [nat8] at h
  | cons a l ih => cases m with
    | nil => simp [nat8] at h
    | cons b m =>
      simp only [nat8, List.map_cons, List.cons.injEq] at h
      rw [UInt8.toNat_inj.1 h.1, ih h.2]
theorem strip_nl (l : List UInt8) : NL (nat8 (strip l)) := by
  unfold strip
  induction l with
  | nil => simp [NL, nat8]
  | cons a l ih =>
    rw [List.dropWhile_cons]
    split
    · exact ih
    · rename_i h
      intro e
      simp only [nat8, List.map_cons, List.head?_cons, Option.some.injEq] at e
      apply h
      have : a = 0 := UInt8.toNat_inj.1 (by rw [e]; rfl)
      simp [this]
theorem strip_pos (B : Nat) (l : List UInt8) : pos B (nat8 (strip l)) = pos B (nat8 l) := by
  unfold strip
  induction l with
  | nil => rfl
  | cons a l ih =>
    rw [List.dropWhile_cons]
    split
    · rename_i h
      have : a = 0 := by simpa using h
      subst this
      rw [ih]
      simp [nat8, pos]
    · rfl
theorem strip_len (l : List UInt8) : (strip l).length ≤ l.length := (List.dropWhile_sublist _).length_le
theorem nl_iff (l : List UInt8) : NL (nat8 l) ↔ l.head? ≠ some 0 := by
  cases l with
  | nil => simp [NL, nat8]
  | cons a l =>
    simp only [NL, nat8, List.map_cons, List.head?_cons, ne_eq, Option.some.injEq]
    constructor
    · intro h e; apply h; rw [e]; rfl
    · intro h e; apply h; exact UInt8.toNat_inj.1 (by rw [e]; rfl)
theorem strip_id {l : List UInt8} (h : l.head? ≠ some 0) : strip l = l := by
  cases l with
  | nil => rfl
  | cons a l =>
    unfold strip
    rw [List.dropWhile_cons, if_neg]
    intro e
    apply h
    have : a = 0 := by simpa using e
    rw [this]; rfl
/-- The number of a list of bytes. -/
def beN (l : List UInt8) : Nat := pos 256 (nat8 l)
theorem beN_lt (l : List UInt8) : beN l < 256 ^ l.length := by
  have := pos_lt (nat8_lt l)
  rwa [show (nat8 l).length = l.length by simp [nat8]] at this
theorem beN_strip (l : List UInt8) : beN (strip l) = beN l := strip_pos 256 l
theorem beN_inj {l m : List UInt8} (k1 : l.head? ≠ some 0) (k2 : m.head? ≠ some 0) (h : beN l = beN m) : l = m :=
  nat8_inj (pos_inj (by decide) (nat8_lt l) (nat8_lt m) ((nl_iff l).2 k1) ((nl_iff m).2 k2) h)
theorem strip_head (l : List UInt8) : (strip l).head? ≠ some 0 := (nl_iff _).1 (strip_nl l)
theorem strip_of {l m : List UInt8} (k : m.head? ≠ some 0) (h : beN l = beN m) : strip l = m := beN_inj (strip_head l) k ((beN_strip l).trans h)
end Ps
end Go.Proofs.Ytnmjpbcbldenmaa

/- A region that draws its order, as in XRegion; what makes memory may turn the blocks that are not kept. -/
namespace Go.Proofs.Ytnmjpbcbldenmaa
open Go.RowKit
namespace Rf
open Rg (noCall noCall_spec np wp_monoQ wpOp_monoQ Closed Closed.step waits waitsB waits_listed nth pick freeW chkS chkT chk planSize nth_of)
/-- A later world: every kept block that was there is as it was. -/
structure Ext (F : Nat → Prop) (w w' : World) : Prop where
  size : w.heap.size ≤ w'.heap.size
  block : ∀ k, k < w.heap.size → F k → w'.heap[k]? = w.heap[k]?
theorem Ext.refl {F : Nat → Prop} (w : World) : Ext F w w := ⟨Nat.le_refl _, fun _ _ _ => rfl⟩
theorem Ext.trans {F : Nat → Prop} {a b c : World} (h : Ext F a b) (k : Ext F b c) : Ext F a c := ⟨Nat.le_trans h.size k.size, fun i hi hF => (k.block i (Nat.lt_of_lt_of_le hi h.size) hF).trans (h.block i hi hF)⟩
theorem Ext.of {F : Nat → Prop} {w w' : World} (h : Rg.Ext w w') : Ext F w w' := ⟨h.size, fun k hk _ => h.block k hk⟩
theorem Ext.setCell {F : Nat → Prop} (w : World) (p : Addr) (u : Value) (h : ¬ F p.block) : Ext F w (w.setCell p u) :=
  ⟨by simp, fun k _ hF => Below.heap_setCell w p u k (fun e => h (e ▸ hF))⟩
theorem Ext.setRow {F : Nat → Prop} (w : World) (g : Nat) (cs : Array Value) (h : ¬ F g) : Ext F w (w.setRow g cs) :=
  ⟨by simp, fun k _ hF => setRow_other w g k cs (fun e => h (e ▸ hF))⟩
/-- The class of the later worlds, in the spelling that the quiet walk reads. -/
structure Lt (F : Nat → Prop) (w : World) where
  v : World
  ext : Ext F w v
instance (F : Nat → Prop) (w : World) : Nonempty (Lt F w) := ⟨⟨w, Ext.refl w⟩⟩
def Cls (F : Nat → Prop) (w : World) (w' : World) : Prop := ∃ x : Lt F w, w' = x.v
theorem Cls.mk {F : Nat → Prop} {w w' : World} (h : Ext F w w') : Cls F w w' := ⟨⟨w', h⟩, rfl⟩
@[go_sem] theorem cls_iff (F : Nat → Prop) (w w' : World) : Cls F w w' ↔ ∃ x : Lt F w, w' = x.v := Iff.rfl
/-- A cell of a kept block is there in every later world. -/
theorem Ext.cell {F : Nat → Prop} {w w' : World} (h : Ext F w w') {a : Addr} {v : Value} (hc : w.cell? a = some v) (hF : F a.block) : w'.cell? a = some v := by
  rw [World.cell?_of_block (w := w) (h.block a.block (World.block_lt_of_cell? w a hc) hF)]; exact hc
theorem later {F : Nat → Prop} {w : World} {a : Addr} {v : Value} (hc : w.cell? a = some v) (hF : F a.block) : ∀ x : Lt F w, x.v.cell? a = some v := fun x => x.ext.cell hc hF
theorem laterB {F : Nat → Prop} {w : World} {g : Nat} {o : Obj} (hc : w.heap[g]? = some o) (hF : F g) : ∀ x : Lt F w, x.v.heap[g]? = some o := fun x => by
  rw [x.ext.block g (Array.getElem?_eq_some_iff.1 hc).1 hF]; exact hc

section
variable {F : Nat → Prop} {P : Program} {ops : Array Oper} {Q : Exit → Act → World → Prop} {md : Region.Mode}

/-- In every later world operation 'o' leaves 'v', and the world as it is. -/
def Yld (F : Nat → Prop) (P : Program) (ops : Array Oper) (w : World) (o : Oper) (v : Value) (a : Act) : Prop :=
  (Region.wanted o (yielded ops a.tmps) = true ∧ ∀ w', Ext F w w' → (execOp a.eval o).run P w' = .ok (.value v) w' ∨ ((execOp a.eval o).run P w' = .ok .skip w' ∧ v = undef)) ∨
  (Region.wanted o (yielded ops a.tmps) = false ∧ v = undef)

theorem Yld.later {w w1 : World} {o : Oper} {v : Value} {a : Act} (h : Yld F P ops w o v a) (he : Ext F w w1) : Yld F P ops w1 o v a := by
  rcases h with ⟨hw, h⟩ | h
  · exact .inl ⟨hw, fun w' hw' => h w' (he.trans hw')⟩
  · exact .inr h

theorem Yld.of_same {w : World} {o : Oper} {v : Value} {a a' : Act} (hy : Yld F P ops w o v a) (he : execOp a'.eval o = execOp a.eval o)
    (hw : Region.wanted o (yielded ops a'.tmps) = Region.wanted o (yielded ops a.tmps)) : Yld F P ops w o v a' := by
  unfold Yld at *
  rw [he, hw]
  exact hy

theorem Yld.wpOp {w : World} {i : Nat} {o : Oper} {v : Value} {a : Act} (hi : ops[i]? = some o) (hy : Yld F P ops w o v a) {K : Act → World → Prop} (h : K (a.put o.dst v) w) : wpOp P ops Q i K a w := by
  unfold Go.wpOp
  simp only [hi]
  rcases hy with ⟨hw, hv⟩ | ⟨hw, rfl⟩
  · rw [if_pos hw]
    refine .inl ?_
    unfold Oper.wp
    rcases hv w (Ext.refl w) with hx | ⟨hx, rfl⟩
    · rw [hx]; exact h
    · rw [hx]; exact h
  · simp only [hw, Bool.false_eq_true, if_false]; exact h

theorem yld_of_quiet {w : World} {o : Oper} {a : Act} {K : Act → Prop} (hn : noCall o.op = true)
    (h : if Region.wanted o (yielded ops a.tmps) then o.quiet P a (Cls F w) K else K (a.put o.dst undef)) : ∃ v, Yld F P ops w o v a ∧ K (a.put o.dst v) := by
  by_cases hw : Region.wanted o (yielded ops a.tmps) = true
  · simp only [hw, if_true] at h
    obtain ⟨v, h1, h2⟩ := h
    refine ⟨v, .inl ⟨hw, fun w' hw' => ?_⟩, h2⟩
    have h3 := h1 w' (Cls.mk hw')
    unfold Oper.quietAt at h3
    have hne := fun f args w'' => noCall_spec (P := P) hn a.eval w' f args w''
    generalize (execOp a.eval o).run P w' = r at *
    cases r with
    | halt x w'' => simp only [Oper.quietUpon] at h3
    | ok n w'' =>
      cases n <;> simp only [Oper.quietUpon] at h3
      case value u => obtain ⟨rfl, rfl⟩ := h3; exact .inl rfl
      case skip => obtain ⟨rfl, rfl⟩ := h3; exact .inr ⟨rfl, rfl⟩
      case enter f args => exact absurd rfl (hne f args w'')
  · simp only [hw] at h
    exact ⟨undef, .inr ⟨by simpa using hw, rfl⟩, h⟩

/-- Whatever order is picked; what is not of the tail leaves a later world than 'wb'. -/
def anyE (F : Nat → Prop) (P : Program) (md : Region.Mode) (ops : Array Oper) (Q : Exit → Act → World → Prop) (tl : List Nat) (wb : World) : Nat → Array Bool → Act → World → Prop
  | 0, listed, a, w => Region.ready md ops listed = [] ∧ Q .normal a w
  | fuel + 1, listed, a, w =>
    (Region.ready md ops listed = [] → Q .normal a w) ∧
    ∀ i ∈ Region.ready md ops listed, wpOp P ops (if tl.contains i then Q else np Q) i (fun a' w' => (tl.contains i = false → Ext F wb w') ∧ anyE F P md ops Q tl wb fuel (listed.setIfInBounds i true) a' w') a w

theorem anyE_any {tl : List Nat} {wb : World} : ∀ (fuel : Nat) (listed : Array Bool) (a : Act) (w : World), anyE F P md ops Q tl wb fuel listed a w → wpAny P md ops Q fuel listed a w
  | 0, _, _, _, h => h
  | fuel + 1, _, _, _, h => ⟨h.1, fun i hi => wpOp_monoQ (fun c a w hq => by split at hq; exact hq; exact hq.2) (fun a w hq => by split at hq; exact hq; exact hq.2) (wpOp_mono (fun a' w' h' => anyE_any fuel _ a' w' h'.2) (h.2 i hi))⟩

theorem anyE_base {tl : List Nat} {wb wb' : World} (he : Ext F wb wb') : ∀ (fuel : Nat) (listed : Array Bool) (a : Act) (w : World), anyE F P md ops Q tl wb' fuel listed a w → anyE F P md ops Q tl wb fuel listed a w
  | 0, _, _, _, h => h
  | fuel + 1, _, _, _, h => ⟨h.1, fun i hi => wpOp_mono (fun a' w' h' => ⟨fun ht => he.trans (h'.1 ht), anyE_base he fuel _ a' w' h'.2⟩) (h.2 i hi)⟩

/-- Taken first: a reading operation. -/
theorem anyE_first {tl : List Nat} {wb : World} {i : Nat} {oi : Oper} {v : Value} {W : Array Nat} (hW : waitsB md ops W = true) (hi : ops[i]? = some oi)
    (hsel : ∀ (j : Nat) (o : Oper) cs b, ops[j]? = some o → o.op ≠ .select cs b) :
    ∀ (fuel : Nat) (listed : Array Bool) (a : Act) (w : World), Closed md ops listed → Ext F wb w →
      (∀ j oj, ops[j]? = some oj → j ≠ i → listed.getD j true = false → waits W j i = true ∨ (oi.apart ops oj = true ∧ tl.contains j = false)) →
      i ∈ Region.ready md ops listed → Yld F P ops wb oi v a →
      anyE F P md ops Q tl wb fuel (listed.setIfInBounds i true) (a.put oi.dst v) w → anyE F P md ops Q tl wb (fuel + 1) listed a w := by
  intro fuel
  induction fuel with
  | zero =>
    intro listed a w hc hwb hfree hr hy H
    refine ⟨fun h => (by rw [h] at hr; cases hr), fun j hj => ?_⟩
    by_cases hji : j = i
    · subst hji; exact (hy.later hwb).wpOp hi ⟨fun _ => hwb, H⟩
    · have := ready_mono hj hji
      rw [H.1] at this
      cases this
  | succ fuel ih =>
    intro listed a w hc hwb hfree hr hy H
    refine ⟨fun h => (by rw [h] at hr; cases hr), fun j hj => ?_⟩
    by_cases hji : j = i
    · subst hji; exact (hy.later hwb).wpOp hi ⟨fun _ => hwb, H⟩
    · have h1 := H.2 j (ready_mono hj hji)
      obtain ⟨hjun, oj, hoj, hall⟩ := mem_ready.1 hj
      have hilt : i < ops.size := (Array.getElem?_eq_some_iff.1 hi).1
      have hiun : listed.getD i false = false := by
        have h0 := (mem_ready.1 hr).1
        rcases Nat.lt_or_ge i listed.size with h' | h'
        · simpa [h'] using h0
        · simp [Array.getElem?_eq_none h']
      have hap : oi.apart ops oj = true ∧ tl.contains j = false := by
        rcases hfree j oj hoj hji hjun with hw | h
        · have := waits_listed hW hc hilt j j oj (Nat.le_refl _) hoj hall hw
          rw [hiun] at this
          cases this
        · exact h
      obtain ⟨p1, p2, p3⟩ := Oper.apart_spec hap.1
      have hsi := fun cs b => hsel i oi cs b hi
      have hsj := fun cs b => hsel j oj cs b hoj
      have keep : ∀ (a : Act), Yld F P ops wb oi v a → ∀ u, Yld F P ops wb oi v (a.put oj.dst u) := fun a hy u =>
        hy.of_same (execOp_put oi hsi a oj.dst u p3) (wanted_put oi a oj.dst u p3)
      have keepD : ∀ d, Yld F P ops wb oi v { a with defers := d :: a.defers } := fun d => hy.of_same rfl rfl
      have hfree' : ∀ k ok, ops[k]? = some ok → k ≠ i → (listed.setIfInBounds j true).getD k true = false → waits W k i = true ∨ (oi.apart ops ok = true ∧ tl.contains k = false) := fun k ok hk hki hun => by
        refine hfree k ok hk hki ?_
        by_cases hjk : j = k
        · subst hjk; exact hjun
        · rw [getD_set_ne true hjk] at hun; exact hun
      have fin : ∀ (a' : Act) (w' : World), Yld F P ops wb oi v a' → Ext F wb w' → anyE F P md ops Q tl wb fuel ((listed.setIfInBounds i true).setIfInBounds j true) (a'.put oi.dst v) w' →
          (True → Ext F wb w') ∧ anyE F P md ops Q tl wb (fuel + 1) (listed.setIfInBounds j true) a' w' := fun a' w' hy' he' h' =>
        ⟨fun _ => he', ih _ a' w' (hc.step hj) he' hfree' (ready_mono hr (Ne.symm hji)) hy' (by rw [Array.setIfInBounds_comm _ _ hji]; exact h')⟩
      rw [hap.2] at h1 ⊢
      simp only [Bool.false_eq_true, if_false] at h1 ⊢
      unfold wpOp at *
      simp only [hoj] at *
      rw [wanted_put oj a oi.dst v p1] at h1
      split
      · rename_i hw
        simp only [hw, if_true] at h1
        rcases h1 with h1 | ⟨hasks, hlets⟩
        case inr => exact .inr ⟨by unfold Oper.asks at *; rw [execOp_put oj hsj a oi.dst v p1] at hasks; exact hasks, hlets⟩
        refine .inl ?_
        unfold Oper.wp at *
        rw [execOp_put oj hsj a oi.dst v p1] at h1
        generalize (execOp a.eval oj).run P w = r at *
        cases r with
        | ok n w' =>
          cases n <;> simp only [Oper.upon] at h1 ⊢
          case value u => exact fin _ _ (keep a hy u) (h1.1 trivial) (by rw [← Act.put_comm a v u p2]; exact h1.2)
          case skip => exact fin _ _ (keep a hy _) (h1.1 trivial) (by rw [← Act.put_comm a v undef p2]; exact h1.2)
          case defer d =>
            refine fin _ _ (keep _ (keepD d) _) (h1.1 trivial) ?_
            rw [← Act.put_comm _ v undef p2, ← Act.put_defers]
            exact h1.2
          case enter f args =>
            refine Calls.mono h1 fun e w'' he => ?_
            cases e with
            | returned u => exact fin _ _ (keep a hy u) (he.1 trivial) (by rw [← Act.put_comm a v u p2]; exact he.2)
            | panicked c => exact absurd rfl (he.1 c)
            | outgrown => exact he
          case row row args => exact Rows.mono h1 fun u w'' he => fin _ _ (keep a hy u) (he.1 trivial) (by rw [← Act.put_comm a v u p2]; exact he.2)
        | halt x w' =>
          cases x <;> simp only [Oper.upon] at h1 ⊢
          case panic u => exact absurd rfl (h1.1 _)
      · rename_i hw
        simp only [hw] at h1
        exact fin _ _ (keep a hy _) (h1.1 trivial) (by rw [← Act.put_comm a v undef p2]; exact h1.2)

/-- Pieces that only read, an operation that makes memory behind each; a last piece; the tail, in its forced order. -/
def walk (F : Nat → Prop) (P : Program) (ops : Array Oper) (Q : Exit → Act → World → Prop) (tail : List Oper) : List (List Oper × Oper) → List Oper → World → Act → Prop
  | [], last, w, a => wpQuiet P ops (Cls F w) (fun a' => wpList P ops Q tail a' w) last a
  | (S, oc) :: t, last, w, a => wpQuiet P ops (Cls F w) (fun a' => wpList P ops (Exit.then (fun a'' w'' => Ext F w w'' ∧ walk F P ops Q tail t last w'' a'') (fun _ _ _ => False)) [oc] a' w) S a

theorem tail_sound {tl : List Nat} {wb : World} : ∀ (l : List Nat) (listed : Array Bool) (a : Act) (w : World), chkT md ops tl l listed = true → wpList P ops Q (pick ops.toList l) a w →
    anyE F P md ops Q tl wb l.length listed a w
  | [], listed, a, w, hc, h => ⟨by simpa [chkT] using hc, by simpa [pick, wpList] using h⟩
  | i :: l, listed, a, w, hc, h => by
    simp only [chkT, Bool.and_eq_true, beq_iff_eq] at hc
    obtain ⟨⟨hr, ht⟩, hc⟩ := hc
    refine ⟨fun h0 => (by rw [h0] at hr; cases hr), fun j hj => ?_⟩
    rw [hr] at hj
    obtain rfl : j = i := by simpa using hj
    have hmem : j ∈ Region.ready md ops listed := by rw [hr]; simp
    obtain ⟨_, o, ho, _⟩ := mem_ready.1 hmem
    have hn : nth ops.toList j = o := nth_of (by simpa using ho)
    simp only [pick, hn, wpList] at h
    rw [if_pos ht]
    unfold wpOp
    simp only [ho]
    have fin : ∀ a' w', wpList P ops Q (pick ops.toList l) a' w' → (tl.contains j = false → Ext F wb w') ∧ anyE F P md ops Q tl wb l.length (listed.setIfInBounds j true) a' w' :=
      fun a' w' h' => ⟨fun hf => (by rw [ht] at hf; cases hf), tail_sound l _ a' w' hc h'⟩
    split
    · rename_i hw
      rw [if_pos hw] at h
      rcases h with h | h
      · exact .inl (Oper.wp_mono fin h)
      · exact .inr h
    · rename_i hw
      rw [if_neg hw] at h
      exact fin _ _ h

theorem seg_sound {tl : List Nat} {W : Array Nat} {wb : World} (hW : waitsB md ops W = true) (hs : Region.noSelect ops = true) {k : Array Bool → Bool} {n : Nat} {K : Act → Prop}
    (hk : ∀ (listed : Array Bool) (a : Act), Closed md ops listed → k listed = true → K a → anyE F P md ops Q tl wb n listed a wb) :
    ∀ (l : List Nat) (listed : Array Bool) (a : Act), Closed md ops listed → chkS md ops W tl l listed k = true → wpQuiet P ops (Cls F wb) K (pick ops.toList l) a →
      anyE F P md ops Q tl wb (l.length + n) listed a wb
  | [], listed, a, hcl, hc, h => by simpa using hk listed a hcl (by simpa [chkS] using hc) (by simpa [pick, wpQuiet] using h)
  | i :: l, listed, a, hcl, hc, h => by
    simp only [chkS, Bool.and_eq_true] at hc
    obtain ⟨⟨hr, hf⟩, hc⟩ := hc
    have hmem : i ∈ Region.ready md ops listed := by simpa using hr
    obtain ⟨_, o, ho, _⟩ := mem_ready.1 hmem
    have hn : nth ops.toList i = o := nth_of (by simpa using ho)
    simp only [freeW, ho, Bool.and_eq_true, List.all_eq_true, List.mem_range] at hf
    obtain ⟨⟨hnc, htl⟩, hall⟩ := hf
    simp only [pick, hn, wpQuiet] at h
    obtain ⟨v, hy, h'⟩ := yld_of_quiet hnc h
    have := seg_sound hW hs hk l _ _ (hcl.step hmem) hc h'
    rw [List.length_cons, Nat.add_right_comm]
    refine anyE_first hW ho (Region.noSelect_spec hs) _ listed a wb hcl (Ext.refl _) (fun j oj hj hne hun => ?_) hmem hy this
    have h2 := hall j (Array.getElem?_eq_some_iff.1 hj).1
    simp only [hj, Bool.or_eq_true, beq_iff_eq, hne, hun, Bool.false_eq_true, false_or, Bool.and_eq_true, Bool.not_eq_true'] at h2
    exact h2

theorem walk_sound {tl : List Nat} {W : Array Nat} (hW : waitsB md ops W = true) (hs : Region.noSelect ops = true) : ∀ (pl : List (List Nat × Nat)) (last : List Nat) (listed : Array Bool) (a : Act) (w : World),
    Closed md ops listed → chk md ops W tl pl last listed = true → walk F P ops Q (pick ops.toList tl) (pl.map fun x => (pick ops.toList x.1, nth ops.toList x.2)) (pick ops.toList last) w a →
    anyE F P md ops Q tl w (planSize pl last tl) listed a w
  | [], last, listed, a, w, hcl, hc, h => by
    have := seg_sound (P := P) (Q := Q) hW hs (k := chkT md ops tl tl) (n := tl.length) (K := fun a' => wpList P ops Q (pick ops.toList tl) a' w) (wb := w)
      (fun l a' _ hk h' => tail_sound tl l a' w hk h') last listed a hcl (by simpa [chk] using hc) (by simpa [walk] using h)
    simpa [planSize] using this
  | (S, i) :: t, last, listed, a, w, hcl, hc, h => by
    have := seg_sound (P := P) (Q := Q) hW hs (wb := w) (n := planSize t last tl + 1) (tl := tl)
      (k := fun l' => Region.ready md ops l' == [i] && !tl.contains i && chk md ops W tl t last (l'.setIfInBounds i true))
      (K := fun a' => wpList P ops (Exit.then (fun a'' w'' => Ext F w w'' ∧ walk F P ops Q (pick ops.toList tl) (t.map fun x => (pick ops.toList x.1, nth ops.toList x.2)) (pick ops.toList last) w'' a'') (fun _ _ _ => False)) [nth ops.toList i] a' w)
      (fun l a' hcl' hk h' => by
        simp only [Bool.and_eq_true, beq_iff_eq, Bool.not_eq_true'] at hk
        obtain ⟨⟨hr, ht⟩, hc'⟩ := hk
        refine ⟨fun h0 => (by rw [h0] at hr; cases hr), fun j hj => ?_⟩
        rw [hr] at hj
        obtain rfl : j = i := by simpa using hj
        have hmem : j ∈ Region.ready md ops l := by rw [hr]; simp
        obtain ⟨_, o, ho, _⟩ := mem_ready.1 hmem
        have hn : nth ops.toList j = o := nth_of (by simpa using ho)
        rw [ht]
        simp only [Bool.false_eq_true, if_false]
        simp only [hn, wpList, Exit.then] at h'
        have fin : ∀ a'' w'', (Ext F w w'' ∧ walk F P ops Q (pick ops.toList tl) (t.map fun x => (pick ops.toList x.1, nth ops.toList x.2)) (pick ops.toList last) w'' a'') →
            (True → Ext F w w'') ∧ anyE F P md ops Q tl w (planSize t last tl) (l.setIfInBounds j true) a'' w'' := fun a'' w'' hh =>
          ⟨fun _ => hh.1, anyE_base hh.1 _ _ _ _ (walk_sound hW hs t last _ a'' w'' (hcl'.step hmem) hc' hh.2)⟩
        unfold wpOp
        simp only [ho]
        split
        · rename_i hw
          rw [if_pos hw] at h'
          rcases h' with h' | ⟨_, a0, w0, hq⟩
          · refine .inl (wp_monoQ (Q' := Exit.then (fun a'' w'' => Ext F w w'' ∧ walk F P ops Q (pick ops.toList tl) (t.map fun x => (pick ops.toList x.1, nth ops.toList x.2)) (pick ops.toList last) w'' a'') (fun _ _ _ => False)) (fun c a1 w1 hq => hq.elim) (fun a1 w1 hq => hq.elim) (Oper.wp_mono fin h'))
          · exact hq.elim
        · rename_i hw
          rw [if_neg hw] at h'
          exact fin _ _ h') S listed a hcl (by simpa [chk] using hc) (by simpa [walk] using h)
    have e : planSize ((S, i) :: t) last tl = S.length + (planSize t last tl + 1) := by simp [planSize]; omega
    rw [e]
    exact this

theorem region (F : Nat → Prop) {id : Nat} {l : List Oper} {a : Act} {w : World} (pl : List (List Nat × Nat)) (last tl : List Nat) (hm : P.follows .mixedOrders = true)
    (hB : (waitsB .any l.toArray (Region.before l.toArray) && Region.noSelect l.toArray && chk .any l.toArray (Region.before l.toArray) tl pl last (Array.replicate l.length false) && planSize pl last tl == l.length) = true)
    (h : ∀ w', Rg.Ext w w' → walk F P l.toArray Q (pick l tl) (pl.map fun x => (pick l x.1, nth l x.2)) (pick l last) w' a) : (Code.region id l.toArray true).wp P Q a w := by
  simp only [Bool.and_eq_true, beq_iff_eq] at hB
  obtain ⟨⟨⟨hW, hs⟩, hc⟩, hsz⟩ := hB
  refine wp_region_any hm (anyE_any (F := F) (tl := tl) (wb := { w with drawn := w.drawn + 1 }) _ _ _ _ ?_)
  have := walk_sound (F := F) (P := P) (Q := Q) (md := .any) (ops := l.toArray) (tl := tl) hW hs pl last (Array.replicate l.length false) a { w with drawn := w.drawn + 1 } (by
    intro j o _ hl
    exfalso
    simp [Array.getElem?_replicate] at hl
    split at hl <;> simp_all) (by simpa using hc) (by simpa using h _ (Below.drew (Below.refl _ w)))
  rw [hsz] at this
  simpa using this

/-- The first piece and its operation; what follows is held back. -/
theorem walk_at {l : List Oper} {tail last : List Oper} {S : List Nat} {i : Nat} {t : List (List Nat × Nat)} {w : World} {a : Act}
    (h : ∀ K : Act → World → Prop, RowKit.Hid (∀ a' w', walk F P ops Q tail (t.map fun x => (pick l x.1, nth l x.2)) last w' a' → K a' w') →
      wpQuiet P ops (Cls F w) (fun a' => wpList P ops (Exit.then (fun a'' w'' => Ext F w w'' ∧ K a'' w'') (fun _ _ _ => False)) [nth l i] a' w) (pick l S) a) :
    walk F P ops Q tail (((S, i) :: t).map fun x => (pick l x.1, nth l x.2)) last w a :=
  h _ (Lib.hid fun _ _ h => h)
/-- The last piece and the tail. -/
theorem walk_end {l : List Oper} {tail last : List Oper} {w : World} {a : Act}
    (h : wpQuiet P ops (Cls F w) (fun a' => wpList P ops Q tail a' w) last a) :
    walk F P ops Q tail (([] : List (List Nat × Nat)).map fun x => (pick l x.1, nth l x.2)) last w a := h
end
end Rf
end Go.Proofs.Ytnmjpbcbldenmaa

/- Walks of package word: Int, sum, Add, Sub, Cmp. -/
namespace Go.Proofs.Ytnmjpbcbldenmaa
open Go.RowKit Rp Rg Ops Mm Ar Wm
namespace Wd
theorem aggW : Agg Try.prog 35 4 := ⟨⟨.array 4 33, by kernel_rfl, rfl⟩, by kernel_rfl⟩

/-- Cell k is set: the rest is as it was. -/
theorem grow_at {α : Type} (V : α → Value) (f : Nat → α) (z : α) (k i : Nat) : V (if i < k + 1 then f i else z) = if i = k then V (f k) else V (if i < k then f i else z) := by
  by_cases h : i = k
  · subst h; simp
  · rw [if_neg h]
    by_cases h2 : i < k
    · rw [if_pos h2, if_pos (Nat.lt_succ_of_lt h2)]
    · rw [if_neg h2, if_neg (by omega)]

theorem word_small (n : Nat) (h0 : n < m64) : wordA n = #[.int .u64 (n : Int), .int .u64 0, .int .u64 0, .int .u64 0] := by
  simp only [wordA, arr, List.range_succ_eq_map, List.range_zero, List.map_cons, List.map_nil, u64V]
  have e0 : limb n 0 = n := by simp [limb, Nat.mod_eq_of_lt h0]
  have e : ∀ k, limb n (k + 1) = 0 := fun k => by
    unfold limb
    rw [Nat.div_eq_of_lt (Nat.lt_of_lt_of_le h0 (by rw [Nat.pow_succ]; exact Nat.le_mul_of_pos_left _ (pow_pos' k)))]
    simp
  simp [e0, e]

theorem IntW (n : Nat) (hn : n < m64) (w : World) : Calls Try.prog 43 #[.int .u64 (n : Int)] w fun e w' => e = .returned (.agg (wordA n)) ∧ Ext w w' := by
  have hz := word_small n hn
  have HZ := Lib.hid hz
  clear hz
  have s1 := (St.start w).alloc (arr 4 fun _ => .int .u64 0) 35
  have s2 := s1.setRow 0 rfl #[.int .u64 (n : Int), .int .u64 0, .int .u64 0, .int .u64 0]
  go_enter Try.func43, Try.ntmps43
  go_wp2_with (refine stAll aggW (vs := #[.int .u64 (n : Int), .int .u64 0, .int .u64 0, .int .u64 0]) rfl _ _ rfl (by rfl) (by rfl) (s1.at 0 rfl) (by rfl) (by rfl) (by simp [Value.oneCell']) ?_)
  go_wp2
  refine bodyPost_ret (v := .agg _) (ret_cell aggW rfl rfl (s2.at 0 rfl) rfl) rfl ⟨by rw [HZ.out], s2.below⟩
def sub64Entry : Array Value → Sem Value := fun args => do
  let (x, y, b) ← Extern.MathBitsCarry.three "Sub64" args
  pure (Extern.MathBitsCarry.pair ((x + Extern.MathBitsCarry.m64 - y - b) % Extern.MathBitsCarry.m64) (if x < y + b then 1 else 0))
theorem run_sub64 {P : Program} (x y c : Nat) (hc : c ≤ 1) (w : World) : (sub64Entry #[.int .u64 x, .int .u64 y, .int .u64 c]).run P w =
    .ok (.tuple #[.int .u64 ((x + m64 - y - c) % m64 : Nat), .int .u64 ((if x < y + c then 1 else 0 : Nat) : Int)]) w := by
  have : c = 0 ∨ c = 1 := by omega
  rcases this with rfl | rfl <;> rfl
end Wd
end Go.Proofs.Ytnmjpbcbldenmaa

/- Walks of package word: Add, Sub, Cmp. -/
namespace Go.Proofs.Ytnmjpbcbldenmaa
open Go.RowKit Rp Rg Ops Mm Ar Wm
namespace Wd
theorem cmp_step {x y k : Nat} (h : x / m64 ^ (k + 1) = y / m64 ^ (k + 1)) : (limb x k < limb y k ↔ x / m64 ^ k < y / m64 ^ k) ∧ (x / m64 ^ k = y / m64 ^ k ↔ limb x k = limb y k) := by
  unfold limb
  rw [Nat.pow_succ, ← Nat.div_div_eq_div_mul, ← Nat.div_div_eq_div_mul] at h
  generalize x / m64 ^ k = A at *
  generalize y / m64 ^ k = B at *
  have := Nat.div_add_mod A m64
  have := Nat.div_add_mod B m64
  rw [h] at *
  omega

end Wd
end Go.Proofs.Ytnmjpbcbldenmaa

/- Words over the lifted state: as lists of four numbers; contracts of package word. -/
namespace Go.Proofs.Ytnmjpbcbldenmaa
open Go.RowKit Rg Wm Ar
namespace Lf
def limbs (x : Nat) : List Nat := [limb x 0, limb x 1, limb x 2, limb x 3]
abbrev wV (x : Nat) : V := .a ((limbs x).map uK)
theorem limbs_len (x : Nat) : (limbs x).length = 4 := rfl
theorem limbs_get (x : Nat) {k : Nat} (h : k < 4) : (limbs x).getD k default = limb x k := by
  match k, h with
  | 0, _ => rfl
  | 1, _ => rfl
  | 2, _ => rfl
  | 3, _ => rfl
theorem limb_lt64 (x k : Nat) : limb x k < 18446744073709551616 := limb_lt x k
theorem limbs_lt (x k : Nat) : (limbs x).getD k default < 18446744073709551616 := by
  rcases Nat.lt_or_ge k 4 with h | h
  · rw [limbs_get x h]; exact limb_lt64 x k
  · rw [List.getD_eq_getElem?_getD, List.getElem?_eq_none (by rw [limbs_len]; exact h)]; exact Nat.zero_lt_succ _
theorem wordA_list (x : Nat) : wordA x = #[.int .u64 (limb x 0 : Int), .int .u64 (limb x 1 : Int), .int .u64 (limb x 2 : Int), .int .u64 (limb x 3 : Int)] := rfl
theorem exact_word (x : Nat) : Exact (wV x) (.agg (wordA x)) := by
  rw [wordA_list]
  refine ⟨fun w g => .a rfl (fun u hu => ?_) (fun j u y hj hy => ?_), fun w g y h => ?_⟩
  · obtain ⟨a, _, rfl⟩ := List.mem_map.1 hu; rfl
  · match j with
    | 0 => simp [limbs] at hj hy; subst hj; subst hy; exact .k _
    | 1 => simp [limbs] at hj hy; subst hj; subst hy; exact .k _
    | 2 => simp [limbs] at hj hy; subst hj; subst hy; exact .k _
    | 3 => simp [limbs] at hj hy; subst hj; subst hy; exact .k _
    | j + 4 => simp [limbs] at hj
  · cases h with
    | @a _ _ vs hl h1 hc =>
      have hs : vs.size = 4 := by simpa [limbs] using hl.symm
      congr 1
      apply Array.ext
      · simpa using hs
      · intro i h1 h2
        have hv : vs[i]? = some vs[i] := Array.getElem?_eq_getElem h1
        match i with
        | 0 => exact rep_k (hc 0 _ _ rfl hv)
        | 1 => exact rep_k (hc 1 _ _ rfl hv)
        | 2 => exact rep_k (hc 2 _ _ rfl hv)
        | 3 => exact rep_k (hc 3 _ _ rfl hv)
        | i + 4 => omega
theorem limbs_eq {x y : Nat} (h : x % M256 = y % M256) : limbs x = limbs y := by
  have := wordA_eq h
  rw [wordA_list, wordA_list] at this
  simp only [Array.mk.injEq, List.cons.injEq, Value.int.injEq, true_and, and_true] at this
  obtain ⟨h1, h2, h3, h4⟩ := this
  simp only [limbs, List.cons.injEq, and_true]
  exact ⟨by omega, by omega, by omega, by omega⟩
theorem limbs_inj {x y : Nat} (h : limbs x = limbs y) : x % M256 = y % M256 := by
  refine wordA_inj ?_
  simp only [limbs, List.cons.injEq, and_true] at h
  obtain ⟨h1, h2, h3, h4⟩ := h
  rw [wordA_list, wordA_list, h1, h2, h3, h4]
theorem limbs_iff {x y : Nat} : limbs x = limbs y ↔ x % M256 = y % M256 := ⟨limbs_inj, limbs_eq⟩
theorem limbs_small {n : Nat} (h : n < m64) : limbs n = [n, 0, 0, 0] := by
  have h0 : limb n 0 = n := by unfold limb; rw [Nat.pow_zero, Nat.div_one, Nat.mod_eq_of_lt h]
  have hi : ∀ i, 1 ≤ i → limb n i = 0 := fun i hi => by
    have : m64 ≤ m64 ^ i := by
      have := Nat.pow_le_pow_right (show 0 < m64 from m64_pos) hi
      rwa [Nat.pow_one] at this
    unfold limb; rw [Nat.div_eq_of_lt (by omega), Nat.zero_mod]
  unfold limbs
  rw [h0, hi 1 (by decide), hi 2 (by decide), hi 3 (by decide)]
/-- The number of four parts. -/
def numOf (l : List Nat) : Nat := val (fun k => l.getD k 0) 4
theorem limbs_num {l : List Nat} (h : l.length = 4) (hl : ∀ a ∈ l, a < m64) : limbs (numOf l) = l := by
  match l, h with
  | [a, b, c, d], _ =>
    have hk : ∀ k, k < 4 → (fun k => [a, b, c, d].getD k 0) k < m64 := fun k hk => by
      match k, hk with
      | 0, _ => exact hl a (by simp)
      | 1, _ => exact hl b (by simp)
      | 2, _ => exact hl c (by simp)
      | 3, _ => exact hl d (by simp)
    unfold limbs numOf
    rw [limb_val hk (by decide : 0 < 4), limb_val hk (by decide : 1 < 4), limb_val hk (by decide : 2 < 4), limb_val hk (by decide : 3 < 4)]
    rfl
theorem numOf_lt {l : List Nat} (h : l.length = 4) (hl : ∀ a ∈ l, a < m64) : numOf l < M256 := by
  match l, h with
  | [a, b, c, d], _ =>
    refine val_lt fun k hk => ?_
    match k, hk with
    | 0, _ => exact hl a (by simp)
    | 1, _ => exact hl b (by simp)
    | 2, _ => exact hl c (by simp)
    | 3, _ => exact hl d (by simp)
/-! ### Bytes -/
def beB (x : Nat) : Nat → List UInt8
  | 0 => []
  | n + 1 => UInt8.ofNat (x / 256 ^ n % 256) :: beB x n
theorem beB_len (x n : Nat) : (beB x n).length = n := by induction n <;> simp [beB, *]
theorem beB_num (x : Nat) : ∀ n, Ps.beN (beB x n) = x % 256 ^ n
  | 0 => by simp [beB, Ps.beN, Ps.nat8, Ps.pos, Nat.mod_one]
  | n + 1 => by
    have ih := beB_num x n
    have e : Ps.beN (beB x (n + 1)) = x / 256 ^ n % 256 * 256 ^ n + Ps.beN (beB x n) := by
      simp only [beB, Ps.beN, Ps.nat8, List.map_cons, Ps.pos, List.length_map, beB_len, UInt8.toNat_ofNat']
      simp
    rw [e, ih, Nat.pow_succ, Nat.mod_mul, Nat.mul_comm]
    omega
theorem m256_bytes : M256 = 256 ^ 32 := by unfold M256 m64; decide
def wordB (x : Nat) : List UInt8 := beB x 32
theorem wordB_len (x : Nat) : (wordB x).length = 32 := beB_len x 32
theorem wordB_num (x : Nat) : Ps.beN (wordB x) = x % M256 := by rw [m256_bytes]; exact beB_num x 32
def bytesR (x i : Nat) : List UInt8 := (List.range 32).map fun j => if j < i then UInt8.ofNat (x / 256 ^ (31 - j) % 256) else 0
theorem bytesR_len (x i : Nat) : (bytesR x i).length = 32 := by simp [bytesR]
theorem bytesR_full (x : Nat) : bytesR x 32 = wordB x := by
  have e : ∀ n, beB x n = (List.range n).map fun j => UInt8.ofNat (x / 256 ^ (n - 1 - j) % 256) := by
    intro n
    induction n with
    | zero => rfl
    | succ n ih =>
      rw [beB, ih, List.range_succ_eq_map, List.map_cons, List.map_map]
      congr 1
      refine List.map_congr_left fun j hj => ?_
      have := List.mem_range.1 hj
      simp only [Function.comp]
      rw [show n + 1 - 1 - (j + 1) = n - 1 - j by omega]
  unfold wordB bytesR
  rw [e]
  refine List.map_congr_left fun j hj => ?_
  rw [if_pos (List.mem_range.1 hj)]
theorem bytesR_set (x i : Nat) (hi : i < 32) {b : Nat} (hb : b % 256 = x / 256 ^ (31 - i) % 256) : (bytesR x i).set i (UInt8.ofNat b) = bytesR x (i + 1) := by
  apply List.ext_getElem
  · simp [bytesR]
  · intro j h1 h2
    rw [List.getElem_set]
    simp only [bytesR, List.getElem_map, List.getElem_range]
    by_cases h : i = j
    · subst h
      rw [if_pos rfl, if_pos (by omega)]
      apply UInt8.toNat_inj.1
      rw [UInt8.toNat_ofNat', UInt8.toNat_ofNat']
      omega
    · rw [if_neg h]
      by_cases h3 : j < i
      · rw [if_pos h3, if_pos (by omega)]
      · rw [if_neg h3, if_neg (by omega)]
theorem limb_byte (x k r : Nat) (hr : r < 8) : limb x k / 2 ^ (r * 8) % 256 = x / 256 ^ (8 * k + r) % 256 := by
  unfold limb
  have e1 : (256 : Nat) ^ (8 * k + r) = m64 ^ k * 2 ^ (r * 8) := by
    rw [Nat.pow_add, Nat.pow_mul]
    have h1 : (256 : Nat) ^ 8 = m64 := by unfold m64; decide
    have h2 : (256 : Nat) ^ r = 2 ^ (r * 8) := by rw [Nat.mul_comm, Nat.pow_mul]
    rw [h1, h2]
  rw [e1, ← Nat.div_div_eq_div_mul]
  generalize x / m64 ^ k = y
  have h3 : m64 = 2 ^ (r * 8) * 2 ^ ((8 - r) * 8) := by rw [← Nat.pow_add, show r * 8 + (8 - r) * 8 = 64 from by omega]; unfold m64; decide
  have h4 : (256 : Nat) ∣ 2 ^ ((8 - r) * 8) := by
    refine ⟨2 ^ ((8 - r) * 8 - 8), ?_⟩
    have : (8 - r) * 8 = 8 + ((8 - r) * 8 - 8) := by omega
    rw [this, Nat.pow_add]; simp
  rw [h3, Nat.mod_mul_right_div_self]
  exact Nat.mod_mod_of_dvd _ h4
theorem pow256 (i : Nat) : (256 : Nat) ^ i = m64 ^ (i / 8) * 2 ^ (i % 8 * 8) := by
  have h1 : (256 : Nat) ^ 8 = m64 := by unfold m64; decide
  have h2 : (256 : Nat) ^ (i % 8) = 2 ^ (i % 8 * 8) := by rw [Nat.mul_comm, Nat.pow_mul]
  rw [← h1, ← h2, ← Nat.pow_mul, ← Nat.pow_add, Nat.div_add_mod]
theorem limb_set {V b i : Nat} (hV : V < 256 ^ i) (hb : b < 256) (k : Nat) : limb (V + b * 256 ^ i) k = if k = i / 8 then limb V k ||| (b * 2 ^ (i % 8 * 8) % 2 ^ 64) else limb V k := by
  have hp := pow256 i
  have hm : 2 ^ 64 = m64 := by unfold m64; decide
  have hr : i % 8 < 8 := Nat.mod_lt _ (by decide)
  have h64 : m64 = 2 ^ (i % 8 * 8) * 2 ^ (64 - i % 8 * 8) := by rw [← Nat.pow_add, ← hm, show i % 8 * 8 + (64 - i % 8 * 8) = 64 from by omega]
  have hpos : ∀ j, 0 < m64 ^ j := fun j => pow_pos' j
  have hle : b * 2 ^ (i % 8 * 8) + 2 ^ (i % 8 * 8) ≤ m64 := by
    have h1 : (2 : Nat) ^ 8 ≤ 2 ^ (64 - i % 8 * 8) := Nat.pow_le_pow_right (by decide) (by omega)
    have h2 : (b + 1) * 2 ^ (i % 8 * 8) ≤ 2 ^ (64 - i % 8 * 8) * 2 ^ (i % 8 * 8) := Nat.mul_le_mul_right _ (by omega)
    rw [Nat.mul_comm (2 ^ (64 - i % 8 * 8)), ← h64, Nat.add_mul, Nat.one_mul] at h2
    exact h2
  have hs0 : 0 < 2 ^ (i % 8 * 8) := Nat.two_pow_pos _
  rcases Nat.lt_trichotomy k (i / 8) with h | h | h
  · rw [if_neg (by omega)]
    obtain ⟨j, hj⟩ : ∃ j, i / 8 = k + 1 + j := ⟨i / 8 - k - 1, by omega⟩
    unfold limb
    rw [hp, hj, show b * (m64 ^ (k + 1 + j) * 2 ^ (i % 8 * 8)) = m64 ^ k * (m64 * (m64 ^ j * (b * 2 ^ (i % 8 * 8)))) from by rw [Nat.pow_add, Nat.pow_add, Nat.pow_one]; ac_rfl, Nat.add_mul_div_left _ _ (hpos k), Nat.add_mul_mod_self_left]
  · rw [if_pos h]
    subst h
    have hlt : V / m64 ^ (i / 8) < 2 ^ (i % 8 * 8) := Nat.div_lt_of_lt_mul (by rw [← hp]; exact hV)
    unfold limb
    rw [hp, show b * (m64 ^ (i / 8) * 2 ^ (i % 8 * 8)) = m64 ^ (i / 8) * (b * 2 ^ (i % 8 * 8)) from by ac_rfl, Nat.add_mul_div_left _ _ (hpos _)]
    rw [Nat.mod_eq_of_lt (show V / m64 ^ (i / 8) < m64 by omega), hm, Nat.mod_eq_of_lt (show b * 2 ^ (i % 8 * 8) < m64 by omega), Nat.mod_eq_of_lt (by omega)]
    rw [Nat.or_comm, Nat.mul_comm b, ← Nat.two_pow_add_eq_or_of_lt hlt, Nat.add_comm]
  · rw [if_neg (by omega)]
    have h1 : (256 : Nat) ^ (i + 1) ≤ m64 ^ k := by
      have : (256 : Nat) ^ (i + 1) ≤ 256 ^ (8 * k) := Nat.pow_le_pow_right (by decide) (by omega)
      rw [Nat.pow_mul] at this
      have e : (256 : Nat) ^ 8 = m64 := by unfold m64; decide
      rwa [e] at this
    have h2 : V + b * 256 ^ i < 256 ^ (i + 1) := by
      have h2 := Nat.mul_le_mul_right (256 ^ i) (Nat.succ_le_of_lt hb)
      rw [Nat.pow_succ, Nat.mul_comm (256 ^ i)]
      rw [Nat.succ_mul] at h2
      omega
    unfold limb
    rw [Nat.div_eq_of_lt (by omega), Nat.div_eq_of_lt (by omega)]
/-- The number of the last i bytes. -/
def tailN (l : List UInt8) (i : Nat) : Nat := Ps.beN (l.drop (l.length - i))
theorem tailN_zero (l : List UInt8) : tailN l 0 = 0 := by unfold tailN; rw [Nat.sub_zero, List.drop_length]; rfl
theorem tailN_all (l : List UInt8) : tailN l l.length = Ps.beN l := by unfold tailN; rw [Nat.sub_self, List.drop_zero]
theorem tailN_lt (l : List UInt8) {i : Nat} (h : i ≤ l.length) : tailN l i < 256 ^ i := by
  have := Ps.beN_lt (l.drop (l.length - i))
  rwa [List.length_drop, show l.length - (l.length - i) = i by omega] at this
theorem tailN_succ (l : List UInt8) {i : Nat} (h : i < l.length) : tailN l (i + 1) = tailN l i + (l.getD (l.length - 1 - i) default).toNat * 256 ^ i := by
  unfold tailN
  rw [show l.length - (i + 1) = l.length - 1 - i by omega, List.drop_eq_getElem_cons (by omega)]
  have e : l.length - 1 - i + 1 = l.length - i := by omega
  rw [e]
  have e2 : ∀ (a : UInt8) (r : List UInt8), Ps.beN (a :: r) = a.toNat * 256 ^ r.length + Ps.beN r := fun a r => by simp [Ps.beN, Ps.nat8, Ps.pos]
  rw [e2, List.length_drop, show l.length - (l.length - i) = i by omega, Nat.add_comm]
  simp [List.getD_eq_getElem?_getD, List.getElem?_eq_getElem (show l.length - 1 - i < l.length by omega)]
attribute [irreducible] bytesR limbs tailN wordB
end Lf
end Go.Proofs.Ytnmjpbcbldenmaa

/- Contracts of package word, lifted. -/
namespace Go.Proofs.Ytnmjpbcbldenmaa
open Go.RowKit Rg Wm Ar
set_option linter.unusedVariables false
set_option maxRecDepth 100000
namespace Lf
namespace Wo
theorem IntW (n : Nat) (h : n < m64) : LF Try.prog 43 [uK n] (fun _ => wV n) none := .of_calls (by kernel_rfl) rfl (ex1 (exact_k _)) (exact_word _) fun w => Wd.IntW n h w
end Wo
theorem byte_at (x : Nat) {i : Nat} (h : i < 32) : (limbs x).getD ((31 - i) / 8) default / 2 ^ ((31 - i) % 8 * 8) % 256 = x / 256 ^ (31 - i) % 256 := by
  rw [limbs_get x (by omega), limb_byte _ _ _ (Nat.mod_lt _ (by decide))]
  congr 3
  omega
theorem set_more {i n V b : Nat} (_h : i < n) (hn : i < 32) (hV : V < 256 ^ i) (hb : b < 256) : (limbs V).set (i / 8) ((limbs V).getD (i / 8) default ||| b * 2 ^ (i % 8 * 8) % 2 ^ 64) = limbs (V + b * 256 ^ i) := by
  rw [limbs_get V (by omega)]
  have h : ∀ k, limb (V + b * 256 ^ i) k = _ := limb_set hV hb
  have hq : i / 8 = 0 ∨ i / 8 = 1 ∨ i / 8 = 2 ∨ i / 8 = 3 := by omega
  unfold limbs
  simp only [h]
  rcases hq with e | e | e | e <;> rw [e] <;> rfl
namespace Wo
set_option maxHeartbeats 1000000 in
theorem Bytes (x : Nat) : LF Try.prog 81 [wV x] (fun _ => .a ((wordB x).map bK)) none := by
  have hl := limbs_len x
  refine LFx.mk' tt Try.func81 rfl rfl rfl (by kernel_rfl) rfl rfl fun F => ?_
  refine wk ?_ trueW trueW
  refine LC.loop2 (fun i L => [(1, .p 1 0), (2, .p 2 0), (3, .p 3 0), (6, .k (.int .i64 ((i : Nat) : Int)))]) (fun i L => [(1, .b ((limbs x).map uK)), (2, .b ((List.replicate 32 0).map bK)), (3, .b (L.map bK))]) (fun i L => i ≤ 32 ∧ L = bytesR x i) ((32 - ·)) (0) ((List.replicate 32 0)) ⟨by omega, by unfold bytesR; rfl⟩ ⟨rfl, rfl, rfl, rfl, trivial⟩ ⟨rfl, rfl, rfl, trivial⟩ rfl rfW rfW ?_
  rintro i L ⟨hi, hL⟩
  have hb := bytesR_len x i
  rw [← hL] at hb
  rcases Nat.lt_or_ge i 32 with h | h
  · have hok : i + 1 ≤ 32 ∧ L.set i (UInt8.ofNat ((limbs x).getD ((31 - i) / 8) default / 2 ^ ((31 - i) % 8 * 8))) = bytesR x (i + 1) := ⟨h, by rw [hL]; exact bytesR_set x i h (byte_at x h)⟩
    clear hL
    exact wk trueW trueW trueW
  · obtain rfl : i = 32 := by omega
    have hv1 : V.a (L.map bK) = V.a ((wordB x).map bK) := by rw [hL, bytesR_full]
    clear hL
    exact wk trueW trueW trueW
end Wo
end Lf
end Go.Proofs.Ytnmjpbcbldenmaa

/- Items as bytes: the plain law. What is written is read back whatever follows; what is read was written so. -/
namespace Go.Proofs.Ytnmjpbcbldenmaa
namespace Pk
open Ps
inductive Itm where
  | mk (l : Bool) (t : List UInt8) (ks : List Itm)
  deriving Inhabited
mutual
def Itm.size : Itm → Nat
  | .mk _ t ks => 1 + t.length + Itm.sizeL ks
def Itm.sizeL : List Itm → Nat
  | [] => 0
  | k :: r => k.size + 1 + Itm.sizeL r
end
def numB (n : Nat) (l : List UInt8) : Prop := l.head? ≠ some 0 ∧ beN l = n
/-- The bytes of a number, the greatest first, none for nought. -/
def numL : Nat → List UInt8
  | 0 => []
  | n + 1 => numL ((n + 1) / 256) ++ [UInt8.ofNat ((n + 1) % 256)]
decreasing_by omega
theorem beN_append (l m : List UInt8) : beN (l ++ m) = beN l * 256 ^ m.length + beN m := by
  unfold beN
  rw [show nat8 (l ++ m) = nat8 l ++ nat8 m by simp [nat8], pos_append]
  simp [nat8]
theorem beN_numL : ∀ n, beN (numL n) = n
  | 0 => by rw [numL]; rfl
  | n + 1 => by
    have h : (n + 1) / 256 < n + 1 := by omega
    rw [numL, beN_append, beN_numL ((n + 1) / 256)]
    have : beN [UInt8.ofNat ((n + 1) % 256)] = (n + 1) % 256 := by simp [beN, nat8, pos]
    rw [this]
    simp only [List.length_cons, List.length_nil, Nat.pow_one]
    omega
decreasing_by omega
theorem numL_head : ∀ n, (numL n).head? ≠ some 0
  | 0 => by rw [numL]; simp
  | n + 1 => by
    have h : (n + 1) / 256 < n + 1 := by omega
    rw [numL]
    have ih := numL_head ((n + 1) / 256)
    cases hl : numL ((n + 1) / 256) with
    | nil =>
      have e := beN_numL ((n + 1) / 256)
      rw [hl] at e
      have e0 : beN [] = 0 := rfl
      rw [e0] at e
      intro h0
      simp only [List.nil_append, List.head?_cons, Option.some.injEq] at h0
      have := congrArg UInt8.toNat h0
      simp at this
      omega
    | cons a r => rw [hl] at ih; simpa using ih
decreasing_by omega
theorem numL_uniq {n : Nat} {l : List UInt8} (h : l.head? ≠ some 0) (k : beN l = n) : l = numL n := beN_inj h (numL_head n) (k.trans (beN_numL n).symm)
theorem strip_num {l : List UInt8} {n : Nat} (h : beN l = n) : strip l = numL n := numL_uniq (strip_head l) ((beN_strip l).trans h)
theorem numL_len {n k : Nat} (h : n < 256 ^ k) : (numL n).length ≤ k := by
  rcases Nat.lt_or_ge k (numL n).length with hlt | hge
  · exfalso
    have hh := numL_head n
    have hb := beN_numL n
    cases hl : numL n with
    | nil => rw [hl] at hlt; simp at hlt
    | cons a r =>
      rw [hl] at hh hb hlt
      have ha : a.toNat ≠ 0 := fun e => hh (by simp only [List.head?_cons, Option.some.injEq]; exact UInt8.toNat_inj.1 (by rw [e]; rfl))
      have := pos_ge (B := 256) (a := a.toNat) (l := nat8 r) ha
      have e : pos 256 (a.toNat :: nat8 r) = n := hb
      rw [e] at this
      have hp : 256 ^ k ≤ 256 ^ (nat8 r).length := Nat.pow_le_pow_right (by decide) (by simp [nat8] at hlt ⊢; omega)
      omega
  · exact hge
theorem numL_pos {n : Nat} (h : 0 < n) : 0 < (numL n).length := by
  rcases Nat.eq_zero_or_pos (numL n).length with h0 | h0
  · have e := beN_numL n
    rw [List.eq_nil_of_length_eq_zero h0] at e
    have e0 : beN [] = 0 := rfl
    omega
  · exact h0
def head (base n : Nat) : List UInt8 := if n < 48 then [UInt8.ofNat (base + n)] else UInt8.ofNat (base + 48 + ((numL n).length - 1)) :: numL n
mutual
def enc : Itm → List UInt8
  | .mk false t _ => if t.length = 1 ∧ t.getD 0 default < 128 then t else head 128 t.length ++ t
  | .mk true _ ks => head 192 (encL ks).length ++ encL ks
def encL : List Itm → List UInt8
  | [] => []
  | k :: r => enc k ++ encL r
end
mutual
def nrm : Itm → Itm
  | .mk false t _ => .mk false t []
  | .mk true _ ks => .mk true [] (nrmL ks)
def nrmL : List Itm → List Itm
  | [] => []
  | k :: r => nrm k :: nrmL r
end
mutual
def same : Itm → Itm → Bool
  | .mk l t ks, .mk l' t' ks' => decide (l = l') && (if l = false then decide (t = t') else decide (ks.length = ks'.length) && sameL ks ks')
def sameL : List Itm → List Itm → Bool
  | a :: r, b :: s => same a b && sameL r s
  | [], _ => true
  | _ :: _, [] => true
end
mutual
theorem same_iff : ∀ (a b : Itm), same a b = true ↔ nrm a = nrm b
  | .mk l t ks, .mk l' t' ks' => by
    unfold same
    cases l <;> cases l' <;> simp [nrm]
    rw [sameL_iff]
theorem sameL_iff : ∀ (a b : List Itm), (a.length = b.length ∧ sameL a b = true) ↔ nrmL a = nrmL b
  | [], [] => by simp [sameL, nrmL]
  | [], _ :: _ => by simp [nrmL]
  | _ :: _, [] => by simp [nrmL]
  | a :: r, b :: s => by
    have h1 := same_iff a b
    have h2 := sameL_iff r s
    simp only [List.length_cons, sameL, nrmL, Bool.and_eq_true, List.cons.injEq, ← h1, ← h2]
    constructor
    · rintro ⟨a, b, c⟩; exact ⟨b, by omega, c⟩
    · rintro ⟨a, b, c⟩; exact ⟨by omega, a, c⟩
end
mutual
theorem enc_nrm : ∀ a, enc (nrm a) = enc a
  | .mk false t ks => by simp [nrm, enc]
  | .mk true t ks => by simp [nrm, enc, encL_nrm ks]
theorem encL_nrm : ∀ a, encL (nrmL a) = encL a
  | [] => rfl
  | k :: r => by simp [nrmL, encL, enc_nrm k, encL_nrm r]
end
/-! ### Reading -/
def take? (n : Nat) (l : List UInt8) : Option (List UInt8 × List UInt8) := if n ≤ l.length then some (l.take n, l.drop n) else none
def lenR (c base : Nat) (l : List UInt8) : Option (Nat × List UInt8) :=
  if c < base + 48 then some (c - base, l)
  else match take? (c - base - 48 + 1) l with
    | none => none
    | some (h, r) => if h.head? = some 0 ∨ 8 < h.length then none else if beN h < 48 then none else some (beN h, r)
/-- The part whose length is told ahead. -/
def part (c base : Nat) (l : List UInt8) : Option (List UInt8 × List UInt8) :=
  match lenR c base l with
  | none => none
  | some (n, r) => take? n r
theorem take?_spec {n : Nat} {l a r : List UInt8} (h : take? n l = some (a, r)) : l = a ++ r ∧ a.length = n := by
  unfold take? at h
  split at h
  · cases h
    exact ⟨(List.take_append_drop n l).symm, by simp; omega⟩
  · cases h
theorem take?_app (a r : List UInt8) : take? a.length (a ++ r) = some (a, r) := by simp [take?]
theorem lenR_spec {c base n : Nat} {l r : List UInt8} (h : lenR c base l = some (n, r)) : r.length ≤ l.length := by
  unfold lenR at h
  split at h
  · cases h; exact Nat.le_refl _
  · split at h
    · cases h
    · rename_i h' r' ht
      obtain ⟨rfl, _⟩ := take?_spec ht
      split at h
      · cases h
      · split at h
        · cases h
        · cases h; simp
theorem part_spec {c base : Nat} {l a r : List UInt8} (h : part c base l = some (a, r)) : a.length + r.length ≤ l.length := by
  unfold part at h
  split at h
  · cases h
  · rename_i n r' hl
    have := lenR_spec hl
    obtain ⟨rfl, _⟩ := take?_spec h
    simpa using this
mutual
def rd : List UInt8 → Option (Itm × List UInt8)
  | [] => none
  | c :: l =>
    if c.toNat < 128 then some (.mk false [c] [], l)
    else if c.toNat < 192 then
      match part c.toNat 128 l with
      | none => none
      | some (b, r) => if b.length = 1 ∧ b.getD 0 default < 128 then none else some (.mk false b [], r)
    else match hp : part c.toNat 192 l with
      | none => none
      | some (b, r) =>
        match rdL b with
        | none => none
        | some ks => some (.mk true [] ks, r)
termination_by l => (l.length, 0)
decreasing_by
  have := part_spec hp
  exact Prod.Lex.left _ _ (by simp; omega)
def rdL (b : List UInt8) : Option (List Itm) :=
  if b = [] then some []
  else match rd b with
    | none => none
    | some (k, r) =>
      if r.length < b.length then
        match rdL r with
        | none => none
        | some ks => some (k :: ks)
      else none
termination_by (b.length, 1)
decreasing_by
  · exact Prod.Lex.right _ (by decide)
  · rename_i h; exact Prod.Lex.left _ _ h
end
theorem rd_len {l r : List UInt8} {k : Itm} (h : rd l = some (k, r)) : r.length < l.length := by
  cases l with
  | nil => rw [rd] at h; cases h
  | cons c l =>
    rw [rd] at h
    split at h
    · cases h; simp
    · split at h
      · split at h
        · cases h
        · rename_i b r' hp
          have := part_spec hp
          split at h
          · cases h
          · cases h; simp; omega
      · split at h
        · cases h
        · rename_i b r' hp
          have := part_spec hp
          split at h
          · cases h
          · cases h; simp; omega
theorem rdL_cons {b r : List UInt8} {k : Itm} (h : rd b = some (k, r)) : rdL b = (rdL r).map (k :: ·) := by
  rw [rdL]
  have hl := rd_len h
  have hb : b ≠ [] := fun e => by subst e; simp at hl
  rw [if_neg hb, h]
  simp only [hl, if_true]
  cases rdL r <;> rfl
theorem rdL_none {b : List UInt8} (hb : b ≠ []) (h : rd b = none) : rdL b = none := by
  rw [rdL, if_neg hb, h]
theorem ofNat_toNat {n : Nat} (h : n < 256) : (UInt8.ofNat n).toNat = n := by simp; omega
/-- A head and what it tells of, read back. -/
theorem part_head {base : Nat} {t r : List UInt8} (hb : base + 64 ≤ 256) (ht : t.length < 2 ^ 64) : ∃ c h, head base t.length = c :: h ∧ base ≤ c.toNat ∧ c.toNat < base + 64 ∧ part c.toNat base (h ++ (t ++ r)) = some (t, r) := by
  unfold head
  rcases Nat.lt_or_ge t.length 48 with h | h
  · rw [if_pos h]
    have e := ofNat_toNat (n := base + t.length) (by omega)
    refine ⟨_, _, rfl, by omega, by omega, ?_⟩
    rw [e]
    unfold part lenR
    rw [if_pos (by omega)]
    simp only [List.nil_append, Nat.add_sub_cancel_left]
    exact take?_app t r
  · rw [if_neg (by omega)]
    have h8 : (numL t.length).length ≤ 8 := numL_len (by simpa using ht)
    have h0 := numL_pos (n := t.length) (by omega)
    have e := ofNat_toNat (n := base + 48 + ((numL t.length).length - 1)) (by omega)
    refine ⟨_, _, rfl, by omega, by omega, ?_⟩
    rw [e]
    unfold part lenR
    rw [if_neg (by omega), show base + 48 + ((numL t.length).length - 1) - base - 48 + 1 = (numL t.length).length by omega, take?_app]
    simp only []
    rw [if_neg (by intro hh; rcases hh with hh | hh; exact numL_head _ hh; omega), beN_numL, if_neg (by omega)]
    exact take?_app t r
/-- What is read with a head was written with it. -/
theorem part_uniq {base c : Nat} {l a r : List UInt8} (hc : base ≤ c) (hc2 : c < base + 64) (hb : base + 64 ≤ 256) (h : part c base l = some (a, r)) : UInt8.ofNat c :: l = head base a.length ++ (a ++ r) := by
  unfold part at h
  split at h
  · cases h
  · rename_i n r' hl
    unfold lenR at hl
    split at hl
    · cases hl
      obtain ⟨rfl, hn⟩ := take?_spec h
      unfold head
      rw [if_pos (by omega), show base + a.length = c by omega]
      rfl
    · split at hl
      · cases hl
      · rename_i h' r'' ht
        obtain ⟨rfl, hn'⟩ := take?_spec ht
        split at hl
        · cases hl
        · split at hl
          · cases hl
          · rename_i hz hs
            cases hl
            obtain ⟨rfl, hn⟩ := take?_spec h
            have e : h' = numL a.length := numL_uniq (fun e => hz (.inl e)) hn.symm
            unfold head
            rw [if_neg (by omega), ← e, show base + 48 + (h'.length - 1) = c by omega]
            simp
mutual
theorem rd_enc : ∀ (a : Itm) (r : List UInt8), (enc a).length < 2 ^ 64 → rd (enc a ++ r) = some (nrm a, r)
  | .mk false t ks, r, h => by
    unfold enc at h ⊢
    split
    · rename_i h1
      obtain ⟨h1, h2⟩ := h1
      match t, h1 with
      | [c], _ =>
        have : c.toNat < 128 := h2
        simp only [List.cons_append, List.nil_append]
        rw [rd, if_pos this]
        rfl
    · rename_i h1
      rw [if_neg h1] at h
      obtain ⟨c, hh, e1, e2, e3, e4⟩ := part_head (base := 128) (t := t) (r := r) (by decide) (by simp at h; omega)
      rw [e1, List.cons_append, List.cons_append, List.append_assoc, rd, if_neg (by omega), if_pos (by omega), e4]
      simp only []
      rw [if_neg h1]
      rfl
  | .mk true t ks, r, h => by
    unfold enc at h ⊢
    have hl : (encL ks).length < 2 ^ 64 := by simp at h; omega
    obtain ⟨c, hh, e1, e2, e3, e4⟩ := part_head (base := 192) (t := encL ks) (r := r) (by decide) hl
    have ih := rdL_enc ks hl
    rw [e1, List.cons_append, List.cons_append, List.append_assoc, rd, if_neg (by omega), if_neg (by omega)]
    split
    · rename_i hp; rw [e4] at hp; cases hp
    · rename_i b r' hp
      rw [e4] at hp
      cases hp
      rw [ih]
      rfl
theorem rdL_enc : ∀ (a : List Itm), (encL a).length < 2 ^ 64 → rdL (encL a) = some (nrmL a)
  | [], _ => by rw [rdL]; rfl
  | k :: s, h => by
    unfold encL at h ⊢
    have h1 := rd_enc k (encL s) (by simp at h; omega)
    rw [rdL_cons h1, rdL_enc s (by simp at h; omega)]
    rfl
end
theorem rd_uniq : ∀ (n : Nat), (∀ (l r : List UInt8) (k : Itm), l.length ≤ n → rd l = some (k, r) → l = enc k ++ r ∧ nrm k = k) ∧ (∀ (l : List UInt8) (ks : List Itm), l.length ≤ n → rdL l = some ks → l = encL ks ∧ nrmL ks = ks) := by
  intro n
  induction n with
  | zero =>
    refine ⟨fun l r k hl h => ?_, fun l ks hl h => ?_⟩
    · have := rd_len h; omega
    · have : l = [] := List.eq_nil_of_length_eq_zero (by omega)
      subst this
      rw [rdL] at h
      simp at h
      subst h
      exact ⟨rfl, rfl⟩
  | succ n ih =>
    have key : ∀ (l r : List UInt8) (k : Itm), l.length ≤ n + 1 → rd l = some (k, r) → l = enc k ++ r ∧ nrm k = k := by
      intro l r k hl h
      cases l with
      | nil => rw [rd] at h; cases h
      | cons c l =>
        have hc := c.toNat_lt
        have hcc : UInt8.ofNat c.toNat = c := by simp
        rw [rd] at h
        split at h
        · rename_i h1
          cases h
          refine ⟨?_, rfl⟩
          unfold enc
          rw [if_pos ⟨rfl, h1⟩]
          rfl
        · rename_i h1
          split at h
          · rename_i h2
            split at h
            · cases h
            · rename_i b r' hp
              split at h
              · cases h
              · rename_i h3
                cases h
                refine ⟨?_, rfl⟩
                have := part_uniq (by omega) (by omega) (by decide) hp
                rw [hcc] at this
                unfold enc
                rw [if_neg h3, List.append_assoc]
                exact this
          · rename_i h2
            split at h
            · cases h
            · rename_i b r' hp
              split at h
              · cases h
              · rename_i ks hks
                cases h
                have hps := part_spec hp
                obtain ⟨e1, e2⟩ := ih.2 b ks (by simp at hl; omega) hks
                have := part_uniq (by omega) (by omega) (by decide) hp
                rw [hcc] at this
                unfold enc nrm
                rw [e2, ← e1, List.append_assoc]
                exact ⟨this, rfl⟩
    refine ⟨key, fun l ks hl h => ?_⟩
    rcases Nat.eq_zero_or_pos l.length with h0 | h0
    · have : l = [] := List.eq_nil_of_length_eq_zero h0
      subst this
      rw [rdL] at h
      simp at h
      subst h
      exact ⟨rfl, rfl⟩
    · cases hr : rd l with
      | none =>
        rw [rdL_none (fun e => by subst e; simp at h0) hr] at h; cases h
      | some x =>
        obtain ⟨k, r⟩ := x
        rw [rdL_cons hr] at h
        obtain ⟨ks', hks, rfl⟩ := Option.map_eq_some_iff.1 h
        have hlen := rd_len hr
        obtain ⟨e1, e2⟩ := key l r k hl hr
        obtain ⟨e3, e4⟩ := ih.2 r ks' (by omega) hks
        unfold encL nrmL
        rw [e2, e4, ← e3]
        exact ⟨e1, rfl⟩
/-- The whole is one item. -/
def dec (b : List UInt8) : Option Itm :=
  match rd b with
  | some (k, []) => some k
  | _ => none
theorem dec_enc {a : Itm} (h : (enc a).length < 2 ^ 64) : dec (enc a) = some (nrm a) := by
  have := rd_enc a [] h
  rw [List.append_nil] at this
  unfold dec
  rw [this]
theorem dec_uniq {b : List UInt8} {k : Itm} (h : dec b = some k) : b = enc k := by
  unfold dec at h
  cases hr : rd b with
  | none => rw [hr] at h; cases h
  | some x =>
    obtain ⟨k', r⟩ := x
    rw [hr] at h
    cases r with
    | cons => cases h
    | nil =>
      cases h
      have := ((rd_uniq b.length).1 b [] k (Nat.le_refl _) hr).1
      simpa using this
theorem enc_apart {a b : Itm} (ha : (enc a).length < 2 ^ 64) : same a b = decide (enc a = enc b) := by
  rw [Bool.eq_iff_iff, same_iff, decide_eq_true_eq]
  constructor
  · intro h; rw [← enc_nrm a, ← enc_nrm b, h]
  · intro h
    have h1 := dec_enc ha
    rw [h, dec_enc (by rw [← h]; exact ha)] at h1
    exact (Option.some.inj h1).symm
theorem dec_more {a : Itm} {r : List UInt8} (h : (enc a).length < 2 ^ 64) : (dec (enc a ++ r)).isSome = decide (r = []) := by
  unfold dec
  rw [rd_enc a r h]
  cases r <;> rfl
theorem rd_torn {a : Itm} {n : Nat} (h : (enc a).length < 2 ^ 64) (hn : n < (enc a).length) : rd ((enc a).take n) = none := by
  cases hr : rd ((enc a).take n) with
  | none => rfl
  | some x =>
    exfalso
    obtain ⟨k, r⟩ := x
    obtain ⟨e1, e2⟩ := (rd_uniq ((enc a).take n).length).1 _ _ _ (Nat.le_refl _) hr
    have h1 := rd_enc a [] h
    have hk : (enc k).length ≤ ((enc a).take n).length := by rw [e1]; simp
    have e3 : enc a ++ [] = enc k ++ (r ++ (enc a).drop n) := by rw [List.append_nil, ← List.append_assoc, ← e1, List.take_append_drop]
    rw [e3, rd_enc k _ (by simp at hk; omega)] at h1
    cases hd : (enc a).drop n with
    | nil => have := congrArg List.length hd; simp at this; omega
    | cons x y => rw [hd] at h1; simp at h1
theorem head_len {b n : Nat} (h : n < 2 ^ 64) : (head b n).length ≤ 9 := by
  unfold head
  split
  · simp
  · have := numL_len (n := n) (k := 8) (by simpa using h)
    simp only [List.length_cons]; omega
mutual
theorem enc_len : ∀ a : Itm, a.size < 2 ^ 56 → (enc a).length ≤ 9 * a.size
  | .mk false t ks, h => by
    unfold enc Itm.size at *
    split
    · omega
    · have : (head 128 t.length).length ≤ 9 := head_len (by omega)
      simp only [List.length_append]; omega
  | .mk true t ks, h => by
    unfold enc Itm.size at *
    have := encL_len ks (by omega)
    have h2 : (head 192 (encL ks).length).length ≤ 9 := head_len (by omega)
    simp only [List.length_append]; omega
theorem encL_len : ∀ a : List Itm, Itm.sizeL a < 2 ^ 56 → (encL a).length ≤ 9 * Itm.sizeL a
  | [], _ => by simp [encL]
  | k :: r, h => by
    unfold encL Itm.sizeL at *
    have h1 := enc_len k (by omega)
    have h2 := encL_len r (by omega)
    simp only [List.length_append]; omega
end
attribute [irreducible] head enc encL lenR part
end Pk
end Go.Proofs.Ytnmjpbcbldenmaa

/- A slice held against nil; a fresh row that a call hands back; Clone. -/
namespace Go.Proofs.Ytnmjpbcbldenmaa
open Go.RowKit Rg
set_option linter.unusedVariables false
set_option maxRecDepth 100000
namespace Lf
section
variable {P : Program} {F : Fr0} {N : Nat} {Q : LQ} {env : Env} {mem : Mem} {ops : Array Oper} {o : Oper} {rs : List Oper} {d : Nat}
/-- Whether a slice is nil is not told: both ways are walked. -/
theorem LS.eqNil {T Y e : Nat} {x : Operand} {t : Option Nat} {es : List V} (X : TOk P) {ti : TI} (hg : gd ops env o = some true) (hds : o.dst = some d) (ho : o.op = .binOp .eql T x (.const (.slice none 0 0)) Y) (hx : evo env x = some (.s t es)) (hT : aget X.tab T = some ti) (hdt : ti.d = .sl e) (hd : Nat.blt d N = true)
    (h1 : es = [] → LS P F N ops rs Q ((d, .k (.bool true)) :: env) mem) (h2 : LS P F N ops rs Q ((d, .k (.bool false)) :: env) mem) : LS P F N ops (o :: rs) Q env mem := ⟨fun g a w hr => by
  have hu := (X.get hT).sl hdt
  have hgt : P.eqGuardType P.depth T = false := by
    obtain ⟨m, hm⟩ : ∃ m, P.depth = m + 1 := ⟨2 * (P.types.size + Made.depth) + 1, rfl⟩
    rw [hm]
    simp [Program.eqGuardType, hu]
  have hrun : ∀ (ad : Option Addr) (n c : Nat), a.eval x = .slice ad n c → (execOp a.eval o).run P w = .ok (.value (.bool ad.isNone)) w := fun ad n c h => by
    have q1 : (eqGuard .eql T x (.const (.slice none 0 0)) (.slice ad n c) (.slice none 0 0)).run P w = .ok () w := by
      unfold eqGuard
      simp [hgt, program, Sem.run]
    have q2 : (binOp .eql T (.slice ad n c) (.slice none 0 0)).run P w = .ok (.bool ad.isNone) w := by
      have e : Op.equal T (.slice ad n c) (.slice none 0 0) = Op.equalIn (9999 + 1) T (.slice ad n c) (.slice none 0 0) := rfl
      have q3 : (Op.equalIn (9999 + 1) T (.slice ad n c) (.slice none 0 0)).run P w = .ok ad.isNone w := by
        rw [Op.equalIn, Sem.run_bind, run_underlying hu w]
        cases ad <;> rfl
      simp only [binOp, e, Sem.run_bind, q3, Result.andThen_ok]
      rfl
    have hx2 : a.eval (.const (.slice none 0 0)) = .slice none 0 0 := rfl
    simp only [execOp, ho, h, hx2, Sem.run_bind, q1, Result.andThen_ok, q2]
    rfl
  have hdd : dok o.dst N = true := by rw [hds]; exact hd
  have hrep := hr.evo hx
  refine wpList_step fun K hK => ?_
  rw [gd_wanted hr hg, if_pos rfl]
  have go : ∀ b : Bool, (execOp a.eval o).run P w = .ok (.value (.bool b)) w → LS P F N ops rs Q ((d, .k (.bool b)) :: env) mem → o.wp P a w K (liftQ F N Q) := fun b hb hl => by
    unfold Oper.wp
    rw [hb]
    refine hK _ _ (hl.go g _ w ?_)
    have := hr.put (Ev.refl g w) hr.mem hr.kept (Rep.k (w := w) (g := g) (.bool b)) hdd
    rw [hds] at this
    rw [hds]
    exact this
  generalize hv : a.eval x = v at hrep
  cases hrep with
  | s0 => exact go true (hrun _ _ _ hv) (h1 rfl)
  | se => exact go false (hrun _ _ _ hv) h2
  | s => exact go false (hrun _ _ _ hv) h2⟩
end
theorem LM.row1 {P : Program} {f : Nat} {args es : List V} {E sz n k0 : Nat} (hA : ∀ (ρ : Nat → Nat), args.map (V.ren ρ) = args) (h : LM P f args [] fun o m => o = .ret (.s (some k0) es) ∧ m = [(k0, .r E sz n)]) (k : Nat) : LM P f args [] fun o m => o = .ret (.s (some k) es) ∧ m = [(k, .r E sz n)] :=
  LM.gen [k0] [k] (by simp) (by simp) rfl h fun ρ hρ => by
    simp at hρ
    refine ⟨hA _, rfl, ?_, ?_⟩
    · simp [Out.ren, V.ren, hρ]
    · simp [Mem.ren, M.ren, hρ]
/-- A call that hands back a fresh row. -/
theorem DR.cr {P : Program} {N : Nat} {ops : Array Oper} {chk : List (Nat × Tch) → Bool} {K : Env → Mem → Prop} {acc : List (Nat × Tch)} {env : Env} {mem : Mem} {i d : Nat} {o : Oper} {rs : List (Nat × Oper)} {fx E sz n : Nat} {xs : List Operand} {ts : Array Nat} {us args es : List V}
    (ho : o.op = .call { callee := .value (.func fx), args := xs.toArray, argTypes := ts }) (hg : gd ops env o = some true) (hds : o.dst = some d) (hx : evs env xs = some us) (hc : ∀ k, LM P fx args [] fun o m => o = .ret (.s (some k) es) ∧ m = [(k, .r E sz n)]) (hu : Fits us args) (hr : V.refs.go [] args = true) (ht : aget mem d = none) (hd : Nat.blt d N = true)
    (hK : DR P N ops chk K rs ((i, callT [] [(d, .r E sz n)]) :: acc) ((d, .s (some d) es) :: env) ((d, .r E sz n) :: mem)) : DR P N ops chk K ((i, o) :: rs) acc env mem :=
  DR.cm hg hds (Does.callM (hc d) ho hx hu (by rw [hr]; rfl)) ⟨ht, trivial⟩ hd hK
end Lf
end Go.Proofs.Ytnmjpbcbldenmaa

/- Room made ahead (append of make onto nil, cut back to nothing): slices.Grow; Concat. -/
namespace Go.Proofs.Ytnmjpbcbldenmaa
open Go.RowKit Rg
namespace Lf
section
variable {P : Program} {o : Oper} {env : Env}
theorem run_appMake {T Tx E ty n : Nat} {kd kx : IntKind} {ei : TI} {w : World} (hu : P.underlying T = some (.slice E)) (hx : P.underlying Tx = some (.int kx)) (hE : TIok P E ei) (hn : 0 < n) (hmax : n ≤ 140737488355328) (hb : n * ei.bytes ≤ 140737488355328) :
    ∃ cs : Array Value, (Builtin.append_ #[T, Tx] ty #[.slice none 0 0, .int kd (n : Int)]).run P w = .ok (.slice (some ⟨w.heap.size, 0, none⟩) n (grownCap w n 0 E)) (w.drew.alloc (.cells cs E)) ∧ cs.size = grownCap w n 0 E * ei.size ∧ n ≤ grownCap w n 0 E ∧ grownCap w n 0 E ≤ maxLen := by
  obtain ⟨i, hi, hsz, hby, z, hz, _, hzs, _⟩ := hE.info
  rw [← hby] at hb
  rw [← hsz] at hzs ⊢
  have hge := grownCap_ge w n 0 E
  have h63 : n ≤ maxLen := by simp only [maxLen]; omega
  have hcm : grownCap w n 0 E ≤ maxLen := grownCap_le_maxLen w n 0 E h63
  have hw : IntKind.i64.wrap (n : Int) = (n : Int) := wrap_i64 (by omega)
  have hfit : Builtin.nextslicecap n 0 * i.bytes ≤ 281474976710656 := by have := growslice_fits (old := 0) (need := n) (by omega) hb; simpa using this
  have h1 : ¬ n = 0 := by omega
  have h2 : ¬ (9223372036854775807 < (n : Int)) := by omega
  have h3 : ¬ (281474976710656 < Builtin.nextslicecap n 0 * i.bytes) := by omega
  have h4 : ¬ (281474976710656 < (n : Int) * (i.bytes : Int)) := by
    have : (n : Int) * (i.bytes : Int) = ((n * i.bytes : Nat) : Int) := by rw [Int.natCast_mul]
    rw [this]; omega
  have h5 : ¬ ((n : Int) < 0) := by omega
  refine ⟨#[] ++ Builtin.zeroCells z.cells n ++ Builtin.zeroCells z.cells (grownCap w n 0 E - n), ?_, ?_, hge, hcm⟩
  · simp [Builtin.append_, run_underlying hu, run_underlying hx, sizeOf, typeInfo, zeroValue, hi, hz, asInt, asIntOf, hw, h1, h2, h3, h4, h5, Question.forced, newRow, grownCap, Builtin.firstCells]
    intro h
    have : Builtin.zeroCells z.cells n = #[] := Array.eq_empty_of_size_eq_zero (by rw [size_zeroCells, hzs]; exact h)
    rw [this]
    simp
  · simp only [Array.size_append, List.size_toArray, List.length_nil, size_zeroCells, hzs, Nat.zero_add, ← Nat.add_mul]
    congr 1
    omega
theorem drew_rel {F : Fr0} {g : Gh} {w : World} {mem : Mem} (h : RelM F g mem w) (hk : Kept F g w) : Ev g w g w.drew ∧ RelM F g mem w.drew ∧ Kept F g w.drew :=
  h.ext hk (Below.refl w.heap.size w).drew (fun _ _ _ => Iff.rfl) rfl rfl fun b o hb => h.fut b o hb
/-- append of so many noughts onto nil: room. -/
theorem Does.appMake {T Tx E i n : Nat} {kd kx : IntKind} {x y : Operand} {z : Int} (X : TOk P) {ti xi ei : TI} (ho : o.op = .call { callee := .builtin .append, args := #[x, y], argTypes := #[T, Tx] }) (hx : evo env x = some .nil) (hy : evo env y = some (.k (.int kd z))) (hz : z = ((n : Nat) : Int)) (hT : aget X.tab T = some ti) (hd : ti.d = .sl E) (hX : aget X.tab Tx = some xi) (hdx : xi.d = .int kx) (hE : aget X.tab E = some ei) (hpos : Nat.blt 0 ei.size = true)
    (hn : 0 < n) (hmax : n ≤ 140737488355328) (hb : n * ei.bytes ≤ 140737488355328) : Does P o env (.w i 0 ei.size 0 n) [(i, none, some (.w E ei.size 0 []))] := by
  subst hz
  refine ⟨fun F g a w mem h1 h2 h3 h4 _ K Q hK => ?_⟩
  have hi := h4 _ _ _ mem_one
  have hrx := h1 x (by simp [ho, Op.operands, Call.operands]) _ hx
  have hry := rep_k (h1 y (by simp [ho, Op.operands, Call.operands]) _ hy)
  have hxe : a.eval x = .slice none 0 0 := by generalize a.eval x = v at hrx; cases hrx; rfl
  obtain ⟨cs, hrun, hcs, hle, hcm⟩ := run_appMake (P := P) (ty := o.type) (kd := kd) (w := w) ((X.get hT).sl hd) ((X.get hX).int hdx) (X.get hE) hn hmax hb
  obtain ⟨d1, d2, d3⟩ := drew_rel h2 h3
  have hpos' : 0 < ei.size := Nat.le_of_ble_eq_true hpos
  have hH : w.drew.heap.size = w.heap.size := rfl
  have hrw : (g.newR i w.drew.heap.size 0 0 (grownCap w n 0 E)).rw i = some (some w.drew.heap.size, 0, grownCap w n 0 E) := by simp [Gh.newR]
  have hown : (w.drew.alloc (.cells cs E)).oRow 0 E ei.size (.slice (some ⟨w.drew.heap.size, 0, none⟩) 0 (grownCap w n 0 E)) 0 [] :=
    ⟨by simp, .inr ⟨w.drew.heap.size, grownCap w n 0 E, cs, _, rfl, Nat.zero_le _, heap_alloc_new w.drew _, Nat.zero_le _, hcm, hcs, by simp, .inl rfl⟩⟩
  obtain ⟨e1, e2, e3⟩ := d2.newR d3 (i := i) (n := 0) (l := 0) (c := grownCap w n 0 E) (m' := .w E ei.size 0 []) (o := .cells cs E) hi (.w hrw ⟨hpos', by simp, ⟨[], hown, by simp⟩, fun b hb o hS => by cases hb; have := hS.2 rfl; omega⟩) fun b o' ⟨l, c', hp'⟩ => by rw [hrw] at hp'; cases hp'; rfl
  unfold Oper.wp
  have hrun' : (execOp a.eval o).run P w = .ok (.value (.slice (some ⟨w.heap.size, 0, none⟩) n (grownCap w n 0 E))) (w.drew.alloc (.cells cs E)) := by
    simp [execOp, ho, resolve, invoke, builtin, hxe, hry, hrun]
  rw [hrun']
  exact hK _ _ _ (d1.trans e1) e2 e3 (.w ⟨_, _, _, hrw, Nat.le_refl _, fun _ => ⟨by omega, by omega, fun _ => by simp [hH]⟩⟩)
/-- Room cut back to nothing: the beginning of a row. -/
theorem Does.cutW0 {T E i n e : Nat} {x : Operand} {hi : Option Operand} {es : List V} (X : TOk P) {ti ei : TI} (ho : o.op = .slice T x none hi none) (hx : evo env x = some (.w i 0 ei.size 0 n)) (hT : aget X.tab T = some ti) (hd : ti.d = .sl e) (hE : aget X.tab e = some ei) (hhi : Bd env n hi 0) :
    Does P o env (.s (some i) []) [(i, some (.w E ei.size 0 es), some (.r E ei.size 0))] := by
  refine ⟨fun F g a w mem h1 h2 h3 h4 _ K Q hK => ?_⟩
  have hi' := h4 _ _ _ mem_one
  have hrx := h1 x (by simp [ho, Op.operands]) _ hx
  have b2 := hhi.val (a := a) (fun y hy u hu => h1 y (by subst hy; simp [ho, Op.operands]) u hu)
  obtain ⟨ao, c, hrw, hB⟩ := h2.buf hi'
  obtain ⟨xs, hown, _⟩ := hB.own
  generalize hv : a.eval x = v at hrx
  cases hrx with
  | @w _ _ _ _ _ _ ad cap h =>
    obtain ⟨a', l, c', k1, k2, k3⟩ := h
    rw [hrw] at k1; cases k1
    obtain ⟨w1, w2, w3⟩ := k3 rfl
    have hcap : cap = c := by omega
    subst hcap
    have had := w3 (.inr rfl)
    simp only [Nat.zero_mul] at had
    have hcut := run_cutG (P := P) (a := ad) (n := n) (cap := cap) ((X.get hT).sl hd) (X.get hE).run_size (.inl ⟨rfl, rfl⟩) b2 (Nat.zero_le _) (Nat.zero_le _) w
    have hres : (if cap = 0 then ad else ad.map (·.add (0 * ei.size))) = ad := by
      split
      · rfl
      · rw [had]; cases ao <;> simp [Addr.add_lit]
    have hown0 : w.oRow 0 E ei.size (.slice (ao.map fun b => ⟨b, 0, none⟩) 0 cap) 0 [] := by
      refine ⟨by simp, ?_⟩
      rcases hown.2 with ⟨hv', _⟩ | ⟨q, cp, cur, fz, hv', hb0, hq, hnc, hcm, hcs, htk, hfz⟩
      · cases ao with
        | none => simp at hv'; exact .inl ⟨by simp [hv'.2], rfl⟩
        | some b => simp at hv'
      · cases ao with
        | none => simp at hv'
        | some b =>
          simp at hv'
          obtain ⟨rfl, rfl⟩ := hv'
          exact .inr ⟨b, cap, cur, fz, rfl, hb0, hq, Nat.zero_le _, hcm, hcs, by simp, hfz⟩
    obtain ⟨k1, k2⟩ := h2.step h3 (i := i) (m' := .r E ei.size 0) (Ev.refl g w) rfl rfl rfl (fun _ _ _ _ => ⟨rfl, rfl, fun h => h⟩) (fun _ _ _ => rfl) (fun _ _ => rfl) (fun _ _ => rfl) (.r hrw ⟨hB.pos, ⟨[], hown0⟩, fun b hb o _ => hB.free b hb o⟩) (fun b o hp => .inl ⟨_, hi', hp⟩) h2.fut
    unfold Oper.wp
    have hrun' : (execOp a.eval o).run P w = .ok (.value (.slice ad 0 cap)) w := by
      rw [hres] at hcut
      simp [execOp, ho, hv, hcut]
    rw [hrun']
    refine hK _ g w (Ev.refl g w) k1 k2 ?_
    have := Rep.row (es := []) (n := 0) (i := i) rfl hB.pos hrw hown0 (fun b hb => ?_) (by simp) (by simp)
    · rw [had]; exact this
    · subst hb; exact ⟨hB.lt rfl, fun o ho => by omega⟩
end
end Lf
end Go.Proofs.Ytnmjpbcbldenmaa

/- Grow from nil, and Concat, of bytes. -/
namespace Go.Proofs.Ytnmjpbcbldenmaa
open Go.RowKit Rg
set_option linter.unusedVariables false
set_option maxRecDepth 100000
namespace Lf
theorem Does.capNil {P : Program} {o : Oper} {env : Env} {x : Operand} {T : Nat} {ts : Array Nat} {e : Nat} (X : TOk P) {ti : TI} (ho : o.op = .call { callee := .builtin .cap, args := #[x], argTypes := ts }) (hts : ts[0]? = some T) (hx : evo env x = some .nil) (hT : aget X.tab T = some ti) (hd : ti.d = .sl e) : Does P o env (.k (.int .i64 ((0 : Nat) : Int))) [] :=
  .pure fun F g a w mem hr _ => by
    have hr0 := hr x (by simp [ho, Op.operands, Call.operands]) _ hx
    have hxe : a.eval x = .slice none 0 0 := by generalize a.eval x = v at hr0; cases hr0; rfl
    exact ⟨.int .i64 ((0 : Nat) : Int), by simp [execOp, ho, resolve, invoke, builtin, hxe, Builtin.cap_, hts, run_underlying ((X.get hT).sl hd), goInt], .k _⟩
theorem Does.cutNil {P : Program} {o : Oper} {env : Env} {T e : Nat} {x : Operand} {hi : Option Operand} (X : TOk P) {ti ei : TI} (ho : o.op = .slice T x none hi none) (hx : evo env x = some .nil) (hT : aget X.tab T = some ti) (hd : ti.d = .sl e) (hE : aget X.tab e = some ei) (hhi : Bd env 0 hi 0) : Does P o env .nil [] :=
  .pure fun F g a w mem hr _ => by
    have hr0 := hr x (by simp [ho, Op.operands]) _ hx
    have hxe : a.eval x = .slice none 0 0 := by generalize a.eval x = v at hr0; cases hr0; rfl
    have b2 := hhi.val (a := a) (fun y hy u hu => hr y (by subst hy; simp [ho, Op.operands]) u hu)
    have := run_cutG (P := P) (a := none) (n := 0) (cap := 0) ((X.get hT).sl hd) (X.get hE).run_size (.inl ⟨rfl, rfl⟩) b2 (Nat.zero_le _) (Nat.zero_le _) w
    rw [hxe] at hr0
    refine ⟨.slice none 0 0, ?_, hr0⟩
    simp [execOp, ho, hxe, this]
/-- A contract that hands back nil hands back the beginning of a row. -/
theorem LM.nilrow {P : Program} {f : Nat} {args : List V} (E sz k : Nat) (hp : Nat.blt 0 sz = true) (h : LM P f args [] fun o m => o = .ret .nil ∧ m = []) : LM P f args [] fun o m => o = .ret (.s (some k) []) ∧ m = [(k, .r E sz 0)] :=
  ⟨h.ok, fun g w vals h1 h2 h3 => Calls.mono (h.go g w vals h1 h2 h3) fun e w' ⟨o, mo, g', ⟨ho, hm⟩, hev, hrel, hk, hat⟩ => by
    subst ho; subst hm
    have hown0 : w'.oRow 0 E sz (.slice (Option.map (fun b => (⟨b, 0, none⟩ : Addr)) none) 0 0) 0 [] := oRow_nil w' 0 E sz
    have hgi : (g'.addRow k (none, 0, 0)).rw k = some (none, 0, 0) := by simp [Gh.addRow]
    obtain ⟨he, r2, r3⟩ := hrel.nilRow hk (i := k) (m := .r E sz 0) rfl (.r hgi ⟨Nat.le_of_ble_eq_true hp, ⟨_, hown0⟩, fun _ h => by cases h⟩) fun b o ⟨l, c, hp⟩ => by rw [hgi] at hp; cases hp
    obtain ⟨x, hx, hrep⟩ := hat
    cases hrep
    exact ⟨_, _, _, ⟨rfl, rfl⟩, hev.trans he, r2, r3, ⟨_, hx, .s0 fun r hr' => by cases hr'; exact ⟨none, 0, 0, hgi, Nat.le_refl _, fun _ => .inl rfl⟩⟩⟩⟩
end Lf
end Go.Proofs.Ytnmjpbcbldenmaa

/- Concat of bytes. -/
namespace Go.Proofs.Ytnmjpbcbldenmaa
open Go.RowKit Rg
set_option linter.unusedVariables false
set_option maxRecDepth 100000
namespace Lf
abbrev bV (l : List UInt8) : V := .s none (l.map bK)
theorem flat_take {α : Type} {ls : List (List α)} {i : Nat} (h : i < ls.length) : (ls.take (i + 1)).flatten = (ls.take i).flatten ++ ls.getD i default := by
  rw [List.take_succ_eq_append_getElem h, List.flatten_append]
  simp [List.getD, h]
theorem flat_takeL {α : Type} {ls : List (List α)} {i : Nat} (h : i < ls.length) : (ls.take (i + 1)).flatten.length = (ls.take i).flatten.length + (ls.getD i default).length := by rw [flat_take h, List.length_append]
theorem flat_le {α : Type} {ls : List (List α)} {i : Nat} : (ls.take i).flatten.length ≤ ls.flatten.length := by
  have e : ls = ls.take i ++ ls.drop i := (List.take_append_drop i ls).symm
  have : ls.flatten.length = (ls.take i).flatten.length + (ls.drop i).flatten.length := by
    rw [← List.length_append, ← List.flatten_append, List.take_append_drop]
  omega
end Lf
end Go.Proofs.Ytnmjpbcbldenmaa

/- Package pack: numbers, heads. -/
namespace Go.Proofs.Ytnmjpbcbldenmaa
open Go.RowKit Rg Wm Ar
set_option linter.unusedVariables false
set_option maxRecDepth 100000
namespace Lf
open Pk
theorem strip_cons (a : UInt8) (r : List UInt8) (h : a = 0) : Ps.strip (a :: r) = Ps.strip r := by subst h; rfl
theorem drop_get {l : List UInt8} {i : Nat} (h : i < l.length) : l.drop i = l.getD i default :: l.drop (i + 1) := by
  rw [List.drop_eq_getElem_cons h, List.getD_eq_getElem?_getD, List.getElem?_eq_getElem h]; rfl
theorem u8_zero {a : UInt8} (h : a.toNat = 0) : a = 0 := UInt8.toNat_inj.1 (by rw [h]; rfl)
namespace Pw
set_option maxHeartbeats 1000000 in
theorem Num (x : Nat) : LF Try.prog 62 [wV x] (fun _ => .s none ((numL (x % M256)).map bK)) none := by
  have c1 := Wo.Bytes x
  have hl := limbs_len x
  have hs := Pk.strip_num (wordB_num x)
  have hb := wordB_len x
  rw [← hs]
  generalize wordB x = B at *
  clear hs
  refine LFx.mk' tt Try.func62 rfl rfl rfl (by kernel_rfl) rfl rfl fun F => ?_
  refine wk ?_ trueW trueW
  refine LC.loop2 (fun i S => [(3, .p 3 0), (4, S)]) (fun i S => [(3, .b (B.map bK))]) (fun i S => Ps.strip (B.drop i) = Ps.strip B ∧ ((i < 32 ∧ S = .sb 3 i (32 - i) (32 - i)) ∨ (i = 32 ∧ S = .s none []))) ((32 - ·)) (0) ((.sb 3 0 (32 - 0) (32 - 0))) ⟨rfl, .inl ⟨by omega, rfl⟩⟩ ⟨rfl, rfl, trivial⟩ ⟨rfl, trivial⟩ rfl rfW rfW ?_
  rintro i S ⟨hstr, ⟨h, rfl⟩ | ⟨rfl, rfl⟩⟩
  · have hd := drop_get (l := B) (i := i) (by omega)
    by_cases hz : (B.getD i default).toNat = 0
    · have hz2 : ((B.getD (i + 0) default).toNat : Int) = 0 := by rw [Nat.add_zero, hz]; rfl
      have hs2 : Ps.strip (B.drop (i + 1)) = Ps.strip B := by rw [← hstr, hd, strip_cons _ _ (u8_zero hz)]
      clear hd
      rcases Nat.lt_or_ge i 31 with h31 | h31
      · have hok : Ps.strip (B.drop (i + 1)) = Ps.strip B ∧ ((i + 1 < 32 ∧ V.sb 3 (i + 1) (32 - (i + 1)) (32 - (i + 1)) = .sb 3 (i + 1) (32 - (i + 1)) (32 - (i + 1))) ∨ (i + 1 = 32 ∧ V.sb 3 (i + 1) (32 - (i + 1)) (32 - (i + 1)) = .s none [])) := ⟨hs2, .inl ⟨by omega, rfl⟩⟩
        exact wk trueW trueW trueW
      · obtain rfl : i = 31 := by omega
        have hok : Ps.strip (B.drop 32) = Ps.strip B ∧ ((32 < 32 ∧ V.s none [] = .sb 3 32 (32 - 32) (32 - 32)) ∨ (32 = 32 ∧ V.s none [] = .s none [])) := ⟨hs2, .inr ⟨rfl, rfl⟩⟩
        exact wk trueW trueW trueW
    · have hz2 : ¬ ((B.getD (i + 0) default).toNat : Int) = 0 := by rw [Nat.add_zero]; omega
      have hv1 : V.s none (((B.drop i).take (32 - i)).map bK) = V.s none ((Ps.strip B).map bK) := by
        rw [← hstr, Ps.strip_id (l := B.drop i) (by rw [hd]; intro e; simp only [List.head?_cons, Option.some.injEq] at e; rw [e] at hz; exact hz rfl), List.take_of_length_le (by rw [List.length_drop]; omega)]
      clear hd hstr
      have hn : ((B.drop i).take (32 - i)).length = 32 - i := by rw [List.length_take, List.length_drop]; omega
      exact wk trueW trueW trueW
  · have hv1 : V.s none [] = V.s none ((Ps.strip B).map bK) := by
      rw [← hstr, List.drop_of_length_le (by omega)]; rfl
    clear hstr
    exact wk trueW trueW trueW
end Pw
end Lf
end Go.Proofs.Ytnmjpbcbldenmaa

/- Package pack: ToNum, heads, Encode; items held against each other. -/
namespace Go.Proofs.Ytnmjpbcbldenmaa
open Go.RowKit Rg Wm Ar
set_option linter.unusedVariables false
set_option maxRecDepth 100000
namespace Lf
open Pk
mutual
def itC : Itm → List V
  | .mk l t ks => [.k (.bool l), bV t, .s none (itL ks)]
def itL : List Itm → List V
  | [] => []
  | k :: r => .a (itC k) :: itL r
end
abbrev itV (x : Itm) : V := .a (itC x)
theorem itL_map : ∀ ks : List Itm, itL ks = ks.map itV
  | [] => rfl
  | k :: r => by rw [itL, itL_map r]; rfl
theorem itC_eq (l : Bool) (t : List UInt8) (ks : List Itm) : itC (.mk l t ks) = [.k (.bool l), bV t, .s none (ks.map itV)] := by rw [itC, itL_map]
theorem itC_len (x : Itm) : (itC x).length = 3 := by obtain ⟨l, t, ks⟩ := x; rw [itC_eq]; rfl
theorem itC_refs (m : Mem) (x : Itm) : V.refs.go m (itC x) = true := by obtain ⟨l, t, ks⟩ := x; rw [itC_eq]; rfl
theorem itC_bare (x : Itm) : (itV x).bare = some (itV x) := by obtain ⟨l, t, ks⟩ := x; simp only [itV, itC_eq]; rfl
theorem itC_cv (x : Itm) (keep : Nat → Bool) (nn : Bool) : V.cv.go keep nn (itC x) = itC x := by obtain ⟨l, t, ks⟩ := x; rw [itC_eq]; simp [V.cv.go, V.cv]
theorem sizeL_take {ks : List Itm} {i : Nat} (h : i < ks.length) : Itm.sizeL (ks.take (i + 1)) = Itm.sizeL (ks.take i) + ((ks.getD i default).size + 1) := by
  rw [List.take_succ_eq_append_getElem h]
  have : ∀ (a b : List Itm), Itm.sizeL (a ++ b) = Itm.sizeL a + Itm.sizeL b := by
    intro a b
    induction a with
    | nil => simp [Itm.sizeL]
    | cons k r ih => simp only [List.cons_append, Itm.sizeL, ih]; omega
  rw [this, List.getD_eq_getElem?_getD, List.getElem?_eq_getElem h]
  simp [Itm.sizeL]
theorem sizeL_mem {ks : List Itm} {k : Itm} (h : k ∈ ks) : k.size < Itm.sizeL ks := by
  induction ks with
  | nil => cases h
  | cons a r ih =>
    simp only [Itm.sizeL]
    rcases List.mem_cons.1 h with rfl | h
    · omega
    · have := ih h; omega
theorem encL_take {ks : List Itm} {i : Nat} (h : i < ks.length) : encL (ks.take (i + 1)) = encL (ks.take i) ++ enc (ks.getD i default) := by
  rw [List.take_succ_eq_append_getElem h]
  have : ∀ (a b : List Itm), encL (a ++ b) = encL a ++ encL b := by
    intro a b
    induction a with
    | nil => simp [encL]
    | cons k r ih => simp only [List.cons_append, encL, ih, List.append_assoc]
  rw [this, List.getD_eq_getElem?_getD, List.getElem?_eq_getElem h]
  simp [encL]
theorem encL_take_le (ks : List Itm) (i : Nat) : (encL (ks.take i)).length ≤ (encL ks).length := by
  have : ∀ (a b : List Itm), encL (a ++ b) = encL a ++ encL b := by
    intro a b
    induction a with
    | nil => simp [encL]
    | cons k r ih => simp only [List.cons_append, encL, ih, List.append_assoc]
  have h2 := this (ks.take i) (ks.drop i)
  rw [List.take_append_drop] at h2
  rw [h2, List.length_append]
  omega
attribute [irreducible] itC
namespace Pw
theorem head_lt (b n : Nat) (h : n < 1073741824) : (numL n).length ≤ 4 := numL_len (by simpa using (by omega : n < 4294967296))
set_option maxHeartbeats 1000000 in
theorem head (b : UInt8) (hb : b.toNat = 128 ∨ b.toNat = 192) (n : Nat) (hn : n < 1073741824) (k : Nat) : LM Try.prog 93 [bK b, .k (.int .i64 (n : Int))] [] fun o m => o = .ret (.s (some k) ((Pk.head b.toNat n).map bK)) ∧ m = [(k, .r 5 1 (Pk.head b.toNat n).length)] := by
  have e : Pk.head b.toNat n = if n < 48 then [UInt8.ofNat (b.toNat + n)] else UInt8.ofNat (b.toNat + 48 + ((numL n).length - 1)) :: numL n := by unfold Pk.head; rfl
  rcases Nat.lt_or_ge n 48 with h | h
  · rw [if_pos h] at e
    rw [e]
    have hx : IntKind.u8.wrap ((b.toNat : Int) + (n : Int)) = ((UInt8.ofNat (b.toNat + n)).toNat : Int) := by rw [wrap_u8 (by omega), Pk.ofNat_toNat (by omega)]; omega
    generalize UInt8.ofNat (b.toNat + n) = y at *
    refine LM.row1 (k0 := 12) (fun ρ => by simp [V.ren, bK]) ?_ k
    clear e
    refine LFx.mk' tt Try.func93 rfl rfl rfl (by kernel_rfl) rfl rfl fun F => ?_
    exact wk trueW trueW trueW
  · rw [if_neg (by omega)] at e
    have hn4 := head_lt 0 n hn
    have hp := numL_pos (n := n) (by omega)
    have hx : IntKind.u8.wrap ((b.toNat : Int) + 48 + (((numL n).length - 1 : Nat) : Int)) = ((UInt8.ofNat (b.toNat + 48 + ((numL n).length - 1))).toNat : Int) := by rw [wrap_u8 (by omega), Pk.ofNat_toNat (by omega)]; omega
    have c1 := Wo.IntW n (by unfold m64; omega)
    have c2 := Num n
    rw [Nat.mod_eq_of_lt (show n < M256 by unfold M256 m64; omega)] at c2
    rw [e]
    clear e
    generalize UInt8.ofNat (b.toNat + 48 + ((numL n).length - 1)) = y at *
    generalize numL n = L at *
    refine LM.row1 (k0 := 24) (fun ρ => by simp [V.ren, bK]) ?_ k
    refine LFx.mk' tt Try.func93 rfl rfl rfl (by kernel_rfl) rfl rfl fun F => ?_
    exact wk trueW trueW trueW
end Pw
end Lf
end Go.Proofs.Ytnmjpbcbldenmaa

/- Package pack: Encode; items held against each other. -/
namespace Go.Proofs.Ytnmjpbcbldenmaa
open Go.RowKit Rg Wm Ar
set_option linter.unusedVariables false
set_option maxRecDepth 100000
namespace Lf
open Pk
theorem sameL_get : ∀ {a b : List Itm}, a.length = b.length → (sameL a b = true ↔ ∀ i, i < a.length → same (a.getD i default) (b.getD i default) = true)
  | [], [], _ => by simp [sameL]
  | x :: r, y :: s, h => by
    have ih := sameL_get (a := r) (b := s) (by simpa using h)
    rw [sameL, Bool.and_eq_true, ih]
    constructor
    · rintro ⟨h1, h2⟩ i hi
      cases i with
      | zero => exact h1
      | succ i => exact h2 i (by simpa using hi)
    · intro h1
      exact ⟨h1 0 (by simp), fun i hi => h1 (i + 1) (by simpa using hi)⟩
  | [], _ :: _, h => by simp at h
  | _ :: _, [], h => by simp at h
theorem sizeL_len (ks : List Itm) : ks.length ≤ Itm.sizeL ks := by
  induction ks with
  | nil => simp
  | cons a r ih => simp only [List.length_cons, Itm.sizeL]; omega
theorem getD_mem {ks : List Itm} {i : Nat} (h : i < ks.length) : ks.getD i default ∈ ks := by
  rw [List.getD_eq_getElem?_getD, List.getElem?_eq_getElem h]; exact List.getElem_mem h
namespace Pw
set_option maxHeartbeats 2000000 in
theorem Encode : ∀ (n : Nat) (x : Itm), x.size ≤ n → n < 100000000 → LF Try.prog 64 [itV x] (fun _ => .s none ((enc x).map bK)) none := by
  intro n
  induction n with
  | zero => intro x hx; obtain ⟨l, t, ks⟩ := x; simp only [Itm.size] at hx; omega
  | succ n ih =>
    intro x hx hn
    have hlen := enc_len x (by omega)
    obtain ⟨l, t, ks⟩ := x
    simp only [Itm.size] at hx hlen
    simp only [itV, itC_eq]
    cases l with
    | false =>
      by_cases hc : t.length = 1 ∧ t.getD 0 default < 128
      · have e : enc (.mk false t ks) = t := by unfold enc; rw [if_pos hc]
        rw [e]
        obtain ⟨h1, h2⟩ := hc
        have h3 : ((t.getD 0 default).toNat : Int) < 128 := by have : (t.getD 0 default).toNat < 128 := h2; omega
        have hv : V.s none [bK (t.getD 0 default)] = V.s none (t.map bK) := by
          match t, h1 with
          | [c], _ => rfl
        clear h2 hlen e
        refine LFx.mk' tt Try.func64 rfl rfl rfl (by kernel_rfl) rfl rfl fun F => ?_
        exact wk trueW trueW trueW
      · have e : enc (.mk false t ks) = Pk.head 128 t.length ++ t := by unfold enc; rw [if_neg hc]
        rw [e] at hlen ⊢
        rw [List.length_append] at hlen
        have c1 := head 128 (.inl rfl) t.length (by omega) 28
        rw [show (128 : UInt8).toNat = 128 from rfl] at c1
        generalize Pk.head 128 t.length = H at *
        clear e
        by_cases h1 : t.length = 1
        · have h3 : ¬ ((t.getD 0 default).toNat : Int) < 128 := fun h => hc ⟨h1, (show (t.getD 0 default).toNat < 128 by omega)⟩
          clear hc
          refine LFx.mk' tt Try.func64 rfl rfl rfl (by kernel_rfl) rfl rfl fun F => ?_
          exact wk trueW trueW trueW
        · clear hc
          refine LFx.mk' tt Try.func64 rfl rfl rfl (by kernel_rfl) rfl rfl fun F => ?_
          exact wk trueW trueW trueW
    | true =>
      have e : enc (.mk true t ks) = Pk.head 192 (encL ks).length ++ encL ks := by unfold enc; rfl
      rw [e] at hlen ⊢
      rw [List.length_append] at hlen
      have c2 := head 192 (.inr rfl) (encL ks).length (by omega) 46
      rw [show (192 : UInt8).toNat = 192 from rfl] at c2
      generalize Pk.head 192 (encL ks).length = H at *
      clear e
      have hkl := sizeL_len ks
      refine LFx.mk' tt Try.func64 rfl rfl rfl (by kernel_rfl) rfl rfl fun F => ?_
      refine wk ?_ trueW trueW
      refine LC.nilrow 3 3 5 1 rfl rfl rfl ?_
      refine LC.loop2 (fun i S => [(1, .p 1 0), (3, .s (some 3) (S.map bK)), (33, .s none (ks.map itV)), (34, .k (.int .i64 ((ks.length : Nat) : Int))), (35, .k (.int .i64 ((i : Nat) : Int)))]) (fun i S => [(1, .b [.k (.bool true), bV t, .s none (ks.map itV)]), (3, .r 5 1 S.length)]) (fun i S => i ≤ ks.length ∧ S = encL (ks.take i)) ((ks.length - ·)) (0) ([]) ⟨by omega, by rw [List.take_zero]; unfold encL; rfl⟩ ⟨rfl, rfl, rfl, rfl, rfl, trivial⟩ ⟨rfl, rfl, trivial⟩ rfl rfW rfW ?_
      rintro i S ⟨hi, hS⟩
      have hSl := encL_take_le ks i
      rw [← hS] at hSl
      rcases Nat.lt_or_ge i ks.length with h | h
      · have hm := sizeL_mem (getD_mem h)
        have c1 := ih (ks.getD i default) (by omega) (by omega)
        have hk3 := itC_len (ks.getD i default)
        have hE := encL_take h
        rw [← hS] at hE
        have hSl2 := encL_take_le ks (i + 1)
        rw [hE, List.length_append] at hSl2
        have hok : i + 1 ≤ ks.length ∧ S ++ enc (ks.getD i default) = encL (ks.take (i + 1)) := ⟨h, hE.symm⟩
        have hrf := itC_refs
        clear ih hS hE
        exact wk trueW trueW trueW
      · obtain rfl : i = ks.length := by omega
        rw [List.take_length] at hS
        subst hS
        clear ih
        exact wk trueW trueW trueW
end Pw
end Lf
end Go.Proofs.Ytnmjpbcbldenmaa

/- The reference's words and items: walks. -/
namespace Go.Proofs.Ytnmjpbcbldenmaa
open Go.RowKit Rg Wm Ar
set_option linter.unusedVariables false
set_option maxRecDepth 100000
namespace Lf
open Pk
namespace Sr
theorem WInt (n : Nat) (h : n < m64) : LF Try.prog 75 [uK n] (fun _ => wV n) none := by
  unfold wV
  rw [limbs_small h]
  refine LFx.mk' tt Try.func75 rfl rfl rfl (by kernel_rfl) rfl rfl fun F => ?_
  exact wk trueW trueW trueW
theorem beB_get (x : Nat) : ∀ n t, t < n → (beB x n).getD t default = UInt8.ofNat (x / 256 ^ (n - 1 - t) % 256)
  | 0, _, h => by omega
  | n + 1, 0, _ => by
    simp only [beB, List.getD_cons_zero, Nat.add_sub_cancel, Nat.sub_zero]
  | n + 1, t + 1, h => by
    simp only [beB, List.getD_cons_succ]
    rw [beB_get x n t (by omega)]
    congr 4
    omega
theorem wordB_get (x t : Nat) (h : t < 32) : (wordB x).getD t default = UInt8.ofNat (x / 256 ^ (31 - t) % 256) := by unfold wordB; exact beB_get x 32 t h
theorem take_get {α : Type} [Inhabited α] {l : List α} {t : Nat} (h : t < l.length) : l.take (t + 1) = l.take t ++ [l.getD t default] := by
  rw [List.take_succ_eq_append_getElem h, List.getD_eq_getElem?_getD, List.getElem?_eq_getElem h]; rfl
theorem byte_u8 {x a r : Nat} (h : x / 2 ^ (r * 8) % 256 = a % 256) : UInt8.ofNat (x / 2 ^ (r * 8)) = UInt8.ofNat a := by
  apply UInt8.toNat_inj.1
  rw [UInt8.toNat_ofNat', UInt8.toNat_ofNat']
  exact h
theorem WBytes (x : Nat) : LF Try.prog 96 [wV x] (fun _ => .s none ((wordB x).map bK)) none := by
  have hB := wordB_len x
  have hl := limbs_len x
  refine LFx.mk' tt Try.func96 rfl rfl rfl (by kernel_rfl) rfl rfl fun F => ?_
  refine wk ?_ trueW trueW
  refine LC.nilrow 3 60 5 1 rfl rfl rfl ?_
  refine LC.loop2 (fun j S => [(1, .p 1 0), (3, .s (some 60) (S.map bK)), (4, .k (.int .i64 ((j : Int) - 1)))]) (fun j S => [(1, .b ((limbs x).map uK)), (60, .r 5 1 S.length)]) (fun j S => j ≤ 4 ∧ S = (wordB x).take ((4 - j) * 8)) ((fun j => j)) (4) ([]) ⟨by omega, rfl⟩ ⟨rfl, rfl, rfl, trivial⟩ ⟨rfl, rfl, trivial⟩ rfl rfW rfW ?_
  rintro j S ⟨hj, hS⟩
  have hSl : S.length = (4 - j) * 8 := by rw [hS, List.length_take]; omega
  rcases Nat.eq_zero_or_pos j with h | h
  · subst h
    have hS' : S = wordB x := by rw [hS, List.take_of_length_le (by omega)]
    subst hS'
    clear hS hSl
    exact wk trueW trueW trueW
  · obtain ⟨m, rfl⟩ : ∃ m, j = m + 1 := ⟨j - 1, by omega⟩
    have e : ((m + 1 : Nat) : Int) - 1 = (m : Int) := by omega
    rw [e]
    refine wk ?_ trueW trueW
    refine LC.loop2 (fun k S2 => [(1, .p 1 0), (3, .s (some 60) (S2.map bK)), (4, .k (.int .i64 ((m : Nat) : Int))), (5, .k (.int .i64 (8 * (k : Int) - 8)))]) (fun k S2 => [(1, .b ((limbs x).map uK)), (60, .r 5 1 S2.length)]) (fun k S2 => k ≤ 8 ∧ S2 = (wordB x).take ((3 - m) * 8 + (8 - k))) ((fun k => k)) (8) (S) ⟨by omega, by rw [hS]; congr 1; omega⟩ ⟨rfl, rfl, rfl, rfl, trivial⟩ ⟨rfl, rfl, trivial⟩ rfl rfW rfW ?_
    rintro k S2 ⟨hk, hS2⟩
    have hSl2 : S2.length = (3 - m) * 8 + (8 - k) := by rw [hS2, List.length_take]; omega
    rcases Nat.eq_zero_or_pos k with h | h
    · subst h
      have hok : m ≤ 4 ∧ S2 = (wordB x).take ((4 - m) * 8) := ⟨by omega, by rw [hS2]; congr 1; omega⟩
      clear hS hS2
      exact wk trueW trueW trueW
    · obtain ⟨r, rfl⟩ : ∃ r, k = r + 1 := ⟨k - 1, by omega⟩
      have e1 : 8 * ((r + 1 : Nat) : Int) - 8 = 8 * (r : Int) := by omega
      rw [e1]
      have hlt := limbs_lt x m
      have hg : (limbs x).getD m default = limb x m := limbs_get x (by omega)
      have w1 : (((limbs x).getD m default : Nat) : Int).fdiv (2 ^ (min (8 * (r : Int)).toNat IntKind.u64.bits)) = (((limbs x).getD m default / 2 ^ (r * 8) : Nat) : Int) := by
        have := shr_u64 (a := (limbs x).getD m default) (s := r * 8) (by omega)
        rw [show 8 * (r : Int) = ((r * 8 : Nat) : Int) from by omega]
        exact this
      have hok : r ≤ 8 ∧ S2 ++ [UInt8.ofNat ((limbs x).getD m default / 2 ^ (r * 8))] = (wordB x).take ((3 - m) * 8 + (8 - r)) := ⟨by omega, by
        rw [show (3 - m) * 8 + (8 - r) = ((3 - m) * 8 + (8 - (r + 1))) + 1 from by omega, take_get (by omega), ← hS2, wordB_get _ _ (by omega), hg]
        congr 2
        apply byte_u8
        rw [limb_byte x m r (by omega), Nat.mod_mod]
        congr 3
        omega⟩
      clear hS hS2 hg e1
      exact wk trueW trueW trueW
theorem PNum (x : Nat) : LF Try.prog 74 [wV x] (fun _ => .s none ((numL (x % M256)).map bK)) none := by
  have c1 := WBytes x
  have hl := limbs_len x
  have hs := Pk.strip_num (wordB_num x)
  have hb := wordB_len x
  rw [← hs]
  generalize wordB x = B at *
  clear hs
  refine LFx.mk' tt Try.func74 rfl rfl rfl (by kernel_rfl) rfl rfl fun F => ?_
  refine wk ?_ trueW trueW
  refine LC.loopN (fun i => [(3, .s none (B.map bK)), (8, .s none (B.map bK)), (9, .k (.int .i64 ((B.length : Nat) : Int))), (10, .k (.int .i64 ((i : Nat) : Int)))]) (fun i => []) (fun i => i ≤ 32 ∧ Ps.strip (B.drop i) = Ps.strip B) ((32 - ·)) (0) ⟨by omega, rfl⟩ ⟨rfl, rfl, rfl, rfl, trivial⟩ trivial rfl rfW rfW ?_
  rintro i ⟨hi, hstr⟩
  by_cases h : i < 32
  · have hd := drop_get (l := B) (i := i) (by omega)
    by_cases hz : (B.getD i default).toNat = 0
    · have hz2 : ((B.getD i default).toNat : Int) = 0 := by rw [hz]; rfl
      have hok : i + 1 ≤ 32 ∧ Ps.strip (B.drop (i + 1)) = Ps.strip B := ⟨h, by rw [← hstr, hd, strip_cons _ _ (u8_zero hz)]⟩
      clear hd hstr
      exact wk trueW trueW trueW
    · have hz2 : ¬ ((B.getD i default).toNat : Int) = 0 := by omega
      have hv1 : Ps.strip B = B.drop i := by
        rw [← hstr, Ps.strip_id (l := B.drop i) (by rw [hd]; intro e; simp only [List.head?_cons, Option.some.injEq] at e; rw [e] at hz; exact hz rfl)]
      rw [hv1]
      clear hd hstr hv1
      exact wk trueW trueW trueW
  · have hv1 : Ps.strip B = [] := by
      rw [← hstr, List.drop_of_length_le (by omega)]; rfl
    rw [hv1]
    clear hstr hv1
    exact wk trueW trueW trueW
end Sr
end Lf
end Go.Proofs.Ytnmjpbcbldenmaa

/- The reference's items: walks; lists and texts of package pack. -/
namespace Go.Proofs.Ytnmjpbcbldenmaa
open Go.RowKit Rg Wm Ar
set_option linter.unusedVariables false
set_option maxRecDepth 100000
namespace Lf
open Pk
theorem item_b1 (ks : List Itm) (o : Option Nat) : ∃ cs, vfill (fun i => [(0, 1), (1, 1), (2, 1)][i]?) ([Z.bool, Z.sl, Z.sl].map Z.v) [(0, .k (.bool true)), (2, .s o (ks.map itV))] = some cs ∧ V.cv.go (fun _ => false) true cs = itC (.mk true [] ks) := by
  refine ⟨[.k (.bool true), .nil, .s o (ks.map itV)], rfl, ?_⟩
  rw [itC_eq]
  cases o <;> rfl
theorem item_b2 (t : List UInt8) (o : Option Nat) : ∃ cs, vfill (fun i => [(0, 1), (1, 1), (2, 1)][i]?) ([Z.bool, Z.sl, Z.sl].map Z.v) [(1, .s o (t.map bK))] = some cs ∧ V.cv.go (fun _ => false) true cs = itC (.mk false t []) := by
  refine ⟨[.k (.bool false), .s o (t.map bK), .nil], rfl, ?_⟩
  rw [itC_eq]
  cases o <;> rfl
namespace Sr
theorem PList (ks : List Itm) : LF Try.prog 76 [.s none (ks.map itV)] (fun _ => itV (.mk true [] ks)) none := by
  obtain ⟨cs, b1, b2⟩ := item_b1 ks none
  have hl := itC_len (.mk true [] ks)
  have hle : 0 + (itC (.mk true [] ks)).length ≤ 3 := by omega
  have hrf := itC_refs
  refine LFx.mk' tt Try.func76 rfl rfl rfl (by kernel_rfl) rfl rfl fun F => ?_
  exact wk trueW trueW trueW
theorem PText (t : List UInt8) : LF Try.prog 77 [.s none (t.map bK)] (fun _ => itV (.mk false t [])) none := by
  obtain ⟨cs, b1, b2⟩ := item_b2 t none
  have hl := itC_len (.mk false t [])
  have hle : 0 + (itC (.mk false t [])).length ≤ 3 := by omega
  have hrf := itC_refs
  refine LFx.mk' tt Try.func77 rfl rfl rfl (by kernel_rfl) rfl rfl fun F => ?_
  exact wk trueW trueW trueW
theorem List_ (ks : List Itm) : LF Try.prog 60 [.s none (ks.map itV)] (fun _ => itV (.mk true [] ks)) none := by
  obtain ⟨cs, b1, b2⟩ := item_b1 ks none
  have hl := itC_len (.mk true [] ks)
  have hle : 0 + (itC (.mk true [] ks)).length ≤ 3 := by omega
  have hrf := itC_refs
  refine LFx.mk' tt Try.func60 rfl rfl rfl (by kernel_rfl) rfl rfl fun F => ?_
  exact wk trueW trueW trueW
theorem Text (t : List UInt8) : LF Try.prog 61 [.s none (t.map bK)] (fun _ => itV (.mk false t [])) none := by
  obtain ⟨cs, b1, b2⟩ := item_b2 t none
  have hl := itC_len (.mk false t [])
  have hle : 0 + (itC (.mk false t [])).length ≤ 3 := by omega
  have hrf := itC_refs
  refine LFx.mk' tt Try.func61 rfl rfl rfl (by kernel_rfl) rfl rfl fun F => ?_
  exact wk trueW trueW trueW
theorem phead (n : Nat) (l : Bool) (hn : n < 1073741824) : LF Try.prog 97 [.k (.int .i64 (n : Int)), .k (.bool l)] (fun _ => sK (Pk.head (if l then 192 else 128) n)) none := by
  have hlen := Pw.head_lt 0 n hn
  have hm : n < m64 := by unfold m64; omega
  have c1 := WInt n hm
  have c2 := PNum n
  rw [show n % M256 = n from Nat.mod_eq_of_lt (by unfold M256; have : m64 ≤ m64 ^ 4 := by unfold m64; decide
                                                  omega)] at c2
  by_cases h : n < 48
  · cases l
    · have e : Pk.head (if false then 192 else 128) n = [UInt8.ofNat (128 + n)] := by unfold Pk.head; rw [if_pos h]; rfl
      rw [e]
      have w1 : IntKind.i64.wrap (128 + (n : Int)) = ((128 + n : Nat) : Int) := by rw [wrap_i64 (by omega)]; omega
      have w2 : IntKind.u8.wrap ((128 + n : Nat) : Int) = ((UInt8.ofNat (128 + n)).toNat : Int) := to_u8b
      refine LFx.mk' tt Try.func97 rfl rfl rfl (by kernel_rfl) rfl rfl fun F => ?_
      exact wk trueW trueW trueW
    · have e : Pk.head (if true then 192 else 128) n = [UInt8.ofNat (192 + n)] := by unfold Pk.head; rw [if_pos h]; rfl
      rw [e]
      have w1 : IntKind.i64.wrap (192 + (n : Int)) = ((192 + n : Nat) : Int) := by rw [wrap_i64 (by omega)]; omega
      have w2 : IntKind.u8.wrap ((192 + n : Nat) : Int) = ((UInt8.ofNat (192 + n)).toNat : Int) := to_u8b
      refine LFx.mk' tt Try.func97 rfl rfl rfl (by kernel_rfl) rfl rfl fun F => ?_
      exact wk trueW trueW trueW
  · have hpos := numL_pos (n := n) (by omega)
    cases l
    · have e : Pk.head (if false then 192 else 128) n = [UInt8.ofNat (128 + 47 + (numL n).length)] ++ numL n := by
        unfold Pk.head; rw [if_neg h]
        show UInt8.ofNat (128 + 48 + ((numL n).length - 1)) :: numL n = _
        rw [show 128 + 48 + ((numL n).length - 1) = 128 + 47 + (numL n).length from by omega]; rfl
      rw [e]
      generalize numL n = L at *
      clear e
      have w1 : IntKind.i64.wrap ((128 + 47 : Int) + (L.length : Int)) = ((128 + 47 + L.length : Nat) : Int) := by rw [wrap_i64 (by omega)]; omega
      have w2 : IntKind.u8.wrap ((128 + 47 + L.length : Nat) : Int) = ((UInt8.ofNat (128 + 47 + L.length)).toNat : Int) := to_u8b
      refine LFx.mk' tt Try.func97 rfl rfl rfl (by kernel_rfl) rfl rfl fun F => ?_
      exact wk trueW trueW trueW
    · have e : Pk.head (if true then 192 else 128) n = [UInt8.ofNat (192 + 47 + (numL n).length)] ++ numL n := by
        unfold Pk.head; rw [if_neg h]
        show UInt8.ofNat (192 + 48 + ((numL n).length - 1)) :: numL n = _
        rw [show 192 + 48 + ((numL n).length - 1) = 192 + 47 + (numL n).length from by omega]; rfl
      rw [e]
      generalize numL n = L at *
      clear e
      have w1 : IntKind.i64.wrap ((192 + 47 : Int) + (L.length : Int)) = ((192 + 47 + L.length : Nat) : Int) := by rw [wrap_i64 (by omega)]; omega
      have w2 : IntKind.u8.wrap ((192 + 47 + L.length : Nat) : Int) = ((UInt8.ofNat (192 + 47 + L.length)).toNat : Int) := to_u8b
      refine LFx.mk' tt Try.func97 rfl rfl rfl (by kernel_rfl) rfl rfl fun F => ?_
      exact wk trueW trueW trueW
end Sr
end Lf
end Go.Proofs.Ytnmjpbcbldenmaa

/- Headers, by their cells. -/
namespace Go.Proofs.Ytnmjpbcbldenmaa
open Go.RowKit Rg Wm Ar
set_option maxRecDepth 100000
namespace Lf
open Pk
structure Hdr where
  parent : List UInt8
  number : Nat
  time : Nat
  keeper : List UInt8
  limit : Nat
  used : Nat
  bloom : List UInt8
  state : List UInt8
  txs : List UInt8
  receipts : List UInt8
  next : List UInt8
  deriving Inhabited, DecidableEq
structure Hdr.ok (h : Hdr) : Prop where
  parent : h.parent.length = 32
  number : h.number < 18446744073709551616
  time : h.time < 18446744073709551616
  keeper : h.keeper.length = 8
  limit : h.limit < 18446744073709551616
  used : h.used < 18446744073709551616
  bloom : h.bloom.length = 32
  state : h.state.length = 32
  txs : h.txs.length = 32
  receipts : h.receipts.length = 32
  next : h.next.length = 32
def hdrC (h : Hdr) : List V := h.parent.map bK ++ (uK h.number :: uK h.time :: (h.keeper.map bK ++ (uK h.limit :: uK h.used :: (h.bloom.map bK ++ (h.state.map bK ++ (h.txs.map bK ++ (h.receipts.map bK ++ h.next.map bK)))))))
theorem hdrC_eq (h : Hdr) : hdrC h = h.parent.map bK ++ (uK h.number :: uK h.time :: (h.keeper.map bK ++ (uK h.limit :: uK h.used :: (h.bloom.map bK ++ (h.state.map bK ++ (h.txs.map bK ++ (h.receipts.map bK ++ h.next.map bK))))))) := rfl
theorem hdrC_len {h : Hdr} (k : h.ok) : (hdrC h).length = 204 := by
  simp [hdrC, k.parent, k.keeper, k.bloom, k.state, k.txs, k.receipts, k.next]
theorem drop_at {a b : List V} {n : Nat} (h : a.length = n) (m : Nat) : (a ++ b).drop (n + m) = b.drop m := by
  subst h; rw [List.drop_append]; simp
theorem len_b (l : List UInt8) {n : Nat} (h : l.length = n) : (l.map bK).length = n := by rw [List.length_map, h]
theorem hd32 {h : Hdr} (k : h.ok) (m : Nat) : (hdrC h).drop (32 + m) = (uK h.number :: uK h.time :: (h.keeper.map bK ++ (uK h.limit :: uK h.used :: (h.bloom.map bK ++ (h.state.map bK ++ (h.txs.map bK ++ (h.receipts.map bK ++ h.next.map bK))))))).drop m := drop_at (len_b _ k.parent) m
theorem hd34 {h : Hdr} (k : h.ok) : (hdrC h).drop 34 = h.keeper.map bK ++ (uK h.limit :: uK h.used :: (h.bloom.map bK ++ (h.state.map bK ++ (h.txs.map bK ++ (h.receipts.map bK ++ h.next.map bK))))) := hd32 k 2
theorem hd42 {h : Hdr} (k : h.ok) (m : Nat) : (hdrC h).drop (42 + m) = (uK h.limit :: uK h.used :: (h.bloom.map bK ++ (h.state.map bK ++ (h.txs.map bK ++ (h.receipts.map bK ++ h.next.map bK))))).drop m := by
  have e : (hdrC h).drop (42 + m) = ((hdrC h).drop 34).drop (8 + m) := by rw [List.drop_drop]; congr 1; omega
  rw [e, hd34 k]; exact drop_at (len_b _ k.keeper) m
theorem hd44 {h : Hdr} (k : h.ok) : (hdrC h).drop 44 = h.bloom.map bK ++ (h.state.map bK ++ (h.txs.map bK ++ (h.receipts.map bK ++ h.next.map bK))) := hd42 k 2
theorem hd76 {h : Hdr} (k : h.ok) : (hdrC h).drop 76 = h.state.map bK ++ (h.txs.map bK ++ (h.receipts.map bK ++ h.next.map bK)) := by
  have e : (hdrC h).drop 76 = ((hdrC h).drop 44).drop (32 + 0) := by rw [List.drop_drop]
  rw [e, hd44 k]; exact drop_at (len_b _ k.bloom) 0
theorem hd108 {h : Hdr} (k : h.ok) : (hdrC h).drop 108 = h.txs.map bK ++ (h.receipts.map bK ++ h.next.map bK) := by
  have e : (hdrC h).drop 108 = ((hdrC h).drop 76).drop (32 + 0) := by rw [List.drop_drop]
  rw [e, hd76 k]; exact drop_at (len_b _ k.state) 0
theorem hd140 {h : Hdr} (k : h.ok) : (hdrC h).drop 140 = h.receipts.map bK ++ h.next.map bK := by
  have e : (hdrC h).drop 140 = ((hdrC h).drop 108).drop (32 + 0) := by rw [List.drop_drop]
  rw [e, hd108 k]; exact drop_at (len_b _ k.txs) 0
theorem hd172 {h : Hdr} (k : h.ok) : (hdrC h).drop 172 = h.next.map bK := by
  have e : (hdrC h).drop 172 = ((hdrC h).drop 140).drop (32 + 0) := by rw [List.drop_drop]
  rw [e, hd140 k]; exact drop_at (len_b _ k.receipts) 0
theorem take_at {a b : List V} {n : Nat} (h : a.length = n) : (a ++ b).take n = a := by subst h; simp
theorem hqP {h : Hdr} (k : h.ok) : CutQ (hdrC h) 32 h.parent := ⟨take_at (len_b _ k.parent), k.parent⟩
theorem hqK {h : Hdr} (k : h.ok) : CutQ ((hdrC h).drop 34) 8 h.keeper := ⟨by rw [hd34 k]; exact take_at (len_b _ k.keeper), k.keeper⟩
theorem hqB {h : Hdr} (k : h.ok) : CutQ ((hdrC h).drop 44) 32 h.bloom := ⟨by rw [hd44 k]; exact take_at (len_b _ k.bloom), k.bloom⟩
theorem hqS {h : Hdr} (k : h.ok) : CutQ ((hdrC h).drop 76) 32 h.state := ⟨by rw [hd76 k]; exact take_at (len_b _ k.state), k.state⟩
theorem hqT {h : Hdr} (k : h.ok) : CutQ ((hdrC h).drop 108) 32 h.txs := ⟨by rw [hd108 k]; exact take_at (len_b _ k.txs), k.txs⟩
theorem hqR {h : Hdr} (k : h.ok) : CutQ ((hdrC h).drop 140) 32 h.receipts := ⟨by rw [hd140 k]; exact take_at (len_b _ k.receipts), k.receipts⟩
theorem hqN {h : Hdr} (k : h.ok) : CutQ ((hdrC h).drop 172) 32 h.next := ⟨by rw [hd172 k]; rw [← len_b _ k.next]; exact List.take_length, k.next⟩
/-- A number among cells. -/
theorem part_num {ti : TI} {cs r : List V} {u : V} {off : Nat} (hd : ti.d.agg = false) (h : cs.drop off = u :: r) : ti.part cs off = some u := by
  have e : cs[off]? = some u := by
    have := congrArg (·[0]?) h
    simpa using this
  unfold TI.part
  rw [hd]
  exact e
theorem hdrC_bare (h : Hdr) : V.bare.go (hdrC h) = some (hdrC h) := by
  have hb : ∀ (l : List UInt8) (r : List V), V.bare.go r = some r → V.bare.go (l.map bK ++ r) = some (l.map bK ++ r) := by
    intro l
    induction l with
    | nil => intro r hr; exact hr
    | cons a l ih =>
      intro r hr
      rw [List.map_cons, List.cons_append, V.bare.go, ih r hr]
      rfl
  have hu : ∀ (n : Nat) (r : List V), V.bare.go r = some r → V.bare.go (uK n :: r) = some (uK n :: r) := fun n r hr => by
    rw [V.bare.go, hr]; rfl
  have hn : ∀ l : List UInt8, V.bare.go (l.map bK) = some (l.map bK) := fun l => by
    have := hb l [] rfl
    rwa [List.append_nil] at this
  rw [hdrC_eq]
  exact hb _ _ (hu _ _ (hu _ _ (hb _ _ (hu _ _ (hu _ _ (hb _ _ (hb _ _ (hb _ _ (hb _ _ (hn _))))))))))
theorem hdrC_refs (m : List (Nat × M)) (h : Hdr) : V.refs.go m (hdrC h) = true := by
  have hb : ∀ (l : List UInt8) (r : List V), V.refs.go m r = true → V.refs.go m (l.map bK ++ r) = true := by
    intro l
    induction l with
    | nil => intro r hr; exact hr
    | cons a l ih =>
      intro r hr
      rw [List.map_cons, List.cons_append, V.refs.go, ih r hr]
      rfl
  have hu : ∀ (n : Nat) (r : List V), V.refs.go m r = true → V.refs.go m (uK n :: r) = true := fun n r hr => by
    rw [V.refs.go, hr]; rfl
  have hn : ∀ l : List UInt8, V.refs.go m (l.map bK) = true := fun l => by
    have := hb l [] rfl
    rwa [List.append_nil] at this
  rw [hdrC_eq]
  exact hb _ _ (hu _ _ (hu _ _ (hb _ _ (hu _ _ (hu _ _ (hb _ _ (hb _ _ (hb _ _ (hb _ _ (hn _))))))))))
attribute [irreducible] hdrC
/-- A header's item. -/
def bytI (l : List UInt8) : Itm := .mk false l []
def hdrKs (h : Hdr) : List (List UInt8) := [h.parent, numL h.number, numL h.time, numL h.limit, numL h.used, h.keeper, h.bloom, h.state, h.txs, h.receipts, h.next]
def hdrI (h : Hdr) : Itm := .mk true [] ((hdrKs h).map bytI)
def hdrB (h : Hdr) : List UInt8 := enc (hdrI h)
end Lf
end Go.Proofs.Ytnmjpbcbldenmaa

/- The reference's encoding; what seats come to. -/
namespace Go.Proofs.Ytnmjpbcbldenmaa
open Go.RowKit Rg Wm Ar
set_option linter.unusedVariables false
set_option maxRecDepth 100000
namespace Lf
open Pk
namespace Sr
set_option maxHeartbeats 2000000 in
theorem PEncode : ∀ (n : Nat) (x : Itm), x.size ≤ n → n < 100000000 → LF Try.prog 78 [itV x] (fun _ => .s none ((enc x).map bK)) none := by
  intro n
  induction n with
  | zero => intro x hx; obtain ⟨l, t, ks⟩ := x; simp only [Itm.size] at hx; omega
  | succ n ih =>
    intro x hx hn
    have hlen := enc_len x (by omega)
    obtain ⟨l, t, ks⟩ := x
    simp only [Itm.size] at hx hlen
    simp only [itV, itC_eq]
    cases l with
    | false =>
      have hmt : t.length ≤ maxLen := by simp only [maxLen]; omega
      by_cases hc : t.length = 1 ∧ t.getD 0 default < 128
      · have e : enc (.mk false t ks) = t := by unfold enc; rw [if_pos hc]
        rw [e]
        obtain ⟨h1, h2⟩ := hc
        have h3 : ((t.getD 0 default).toNat : Int) < 128 := by have : (t.getD 0 default).toNat < 128 := h2; omega
        clear h2 hlen e ih
        refine LFx.mk' tt Try.func78 rfl rfl rfl (by kernel_rfl) rfl rfl fun F => ?_
        exact wk trueW trueW trueW
      · have e : enc (.mk false t ks) = Pk.head 128 t.length ++ t := by unfold enc; rw [if_neg hc]
        rw [e] at hlen ⊢
        rw [List.length_append] at hlen
        have c1 := phead t.length false (by omega)
        rw [show (if false then 192 else 128 : Nat) = 128 from rfl] at c1
        generalize Pk.head 128 t.length = H at *
        have hmx : (H ++ t).length ≤ maxLen := by rw [List.length_append]; simp only [maxLen]; omega
        clear e ih
        by_cases h1 : t.length = 1
        · have h3 : ¬ ((t.getD 0 default).toNat : Int) < 128 := fun h => hc ⟨h1, (show (t.getD 0 default).toNat < 128 by omega)⟩
          clear hc
          refine LFx.mk' tt Try.func78 rfl rfl rfl (by kernel_rfl) rfl rfl fun F => ?_
          exact wk trueW trueW trueW
        · clear hc
          refine LFx.mk' tt Try.func78 rfl rfl rfl (by kernel_rfl) rfl rfl fun F => ?_
          exact wk trueW trueW trueW
    | true =>
      have e : enc (.mk true t ks) = Pk.head 192 (encL ks).length ++ encL ks := by unfold enc; rfl
      rw [e] at hlen ⊢
      rw [List.length_append] at hlen
      have c2 := phead (encL ks).length true (by omega)
      rw [show (if true then 192 else 128 : Nat) = 192 from rfl] at c2
      generalize Pk.head 192 (encL ks).length = H at *
      have hmx : (H ++ encL ks).length ≤ maxLen := by rw [List.length_append]; simp only [maxLen]; omega
      clear e
      have hkl := sizeL_len ks
      refine LFx.mk' tt Try.func78 rfl rfl rfl (by kernel_rfl) rfl rfl fun F => ?_
      refine wk ?_ trueW trueW
      refine LC.loop2 (fun i S => [(1, .p 1 0), (3, sK S), (12, .s none (ks.map itV)), (13, .k (.int .i64 ((ks.length : Nat) : Int))), (14, .k (.int .i64 ((i : Nat) : Int)))]) (fun i S => [(1, .b [.k (.bool true), bV t, .s none (ks.map itV)])]) (fun i S => i ≤ ks.length ∧ S = encL (ks.take i)) ((ks.length - ·)) (0) ([]) ⟨by omega, by rw [List.take_zero]; unfold encL; rfl⟩ ⟨rfl, rfl, rfl, rfl, rfl, trivial⟩ ⟨rfl, trivial⟩ rfl rfW rfW ?_
      rintro i S ⟨hi, hS⟩
      have hSl := encL_take_le ks i
      rw [← hS] at hSl
      rcases Nat.lt_or_ge i ks.length with h | h
      · have hm := sizeL_mem (Lf.getD_mem h)
        have c1 := ih (ks.getD i default) (by omega) (by omega)
        have hk3 := itC_len (ks.getD i default)
        have hk4 : 0 + (itC (ks.getD i default)).length ≤ 3 := by omega
        have hE := encL_take h
        rw [← hS] at hE
        have hSl2 := encL_take_le ks (i + 1)
        rw [hE, List.length_append] at hSl2
        have hok : i + 1 ≤ ks.length ∧ S ++ enc (ks.getD i default) = encL (ks.take (i + 1)) := ⟨h, hE.symm⟩
        have hrf := itC_refs
        clear ih hS hE
        exact wk trueW trueW trueW
      · obtain rfl : i = ks.length := by omega
        rw [List.take_length] at hS
        subst hS
        clear ih
        exact wk trueW trueW trueW
/-- The item of seats. -/
def seatI (l : List Nat) : Itm := .mk true [] (l.map fun s => .mk false (numL s) [])
end Sr
end Lf
end Go.Proofs.Ytnmjpbcbldenmaa

/- What seats come to, and their text. -/
namespace Go.Proofs.Ytnmjpbcbldenmaa
open Go.RowKit Rg Wm Ar
set_option linter.unusedVariables false
set_option maxRecDepth 100000
namespace Lf
open Pk
theorem numL64 {s : Nat} (h : s < 18446744073709551616) : (numL s).length ≤ 8 := numL_len (by simpa using h)
def seatK (s : Nat) : Itm := .mk false (numL s) []
theorem seatI_eq (l : List Nat) : Sr.seatI l = .mk true [] (l.map seatK) := rfl
theorem seatK_size {s : Nat} (h : s < 18446744073709551616) : (seatK s).size ≤ 9 := by
  have := numL64 h
  unfold seatK
  simp only [Itm.size, Itm.sizeL]
  omega
theorem seatI_size : ∀ {l : List Nat}, (∀ s ∈ l, s < 18446744073709551616) → Itm.sizeL (l.map seatK) ≤ 10 * l.length
  | [], _ => by simp [Itm.sizeL]
  | s :: r, h => by
    have h1 := seatK_size (h s (by simp))
    have h2 := seatI_size (l := r) fun x hx => h x (by simp [hx])
    simp only [List.map_cons, Itm.sizeL, List.length_cons]
    omega
theorem mod256 {s : Nat} (h : s < 18446744073709551616) : s % M256 = s := Nat.mod_eq_of_lt (by unfold M256 m64; omega)
namespace Sr
theorem PList0 : LF Try.prog 76 [.nil] (fun _ => .a [.k (.bool true), .nil, .nil]) none := by
  refine LFx.mk' tt Try.func76 rfl rfl rfl (by kernel_rfl) rfl rfl fun F => ?_
  exact wk trueW trueW trueW
theorem List0 : LF Try.prog 60 [.nil] (fun _ => .a [.k (.bool true), .nil, .nil]) none := by
  refine LFx.mk' tt Try.func60 rfl rfl rfl (by kernel_rfl) rfl rfl fun F => ?_
  exact wk trueW trueW trueW
theorem getD64 {l : List Nat} (hl : ∀ x ∈ l, x < 18446744073709551616) {i : Nat} (h : i < l.length) : l.getD i default < 18446744073709551616 := hl _ (by
  rw [List.getD_eq_getElem?_getD, List.getElem?_eq_getElem h]; exact List.getElem_mem h)
theorem map_take {α β : Type} [Inhabited α] {f : α → β} {l : List α} {i : Nat} (h : i < l.length) : (l.take i).map f ++ [f (l.getD i default)] = (l.take (i + 1)).map f := by
  rw [take_get h, List.map_append]; rfl
set_option maxHeartbeats 2000000 in
theorem VText (l : List Nat) (hl : ∀ s ∈ l, s < 18446744073709551616) (hn : l.length < 2000000) : LF Try.prog 37 [.s none (l.map uK)] (fun _ => .s none ((enc (seatI l)).map bK)) none := by
  have c1 := PList0
  have hsz := seatI_size hl
  have cE := PEncode (1 + 10 * l.length) (seatI l) (by rw [seatI_eq]; simp only [Itm.size, List.length_nil]; omega) (by omega)
  rw [seatI_eq] at cE ⊢
  generalize enc (.mk true [] (l.map seatK)) = out at *
  simp only [itV, itC_eq] at cE
  clear hsz
  refine LFx.mk' tt Try.func37 rfl rfl rfl (by kernel_rfl) rfl rfl fun F => ?_
  refine wk ?_ trueW trueW
  refine LC.nilcell 3 2 60 122 3 rfl rfl rfl (by decide) rfl ?_
  refine LC.loop2 (fun i S => [(3, .p 3 0), (7, .s none (l.map uK)), (8, .k (.int .i64 ((l.length : Nat) : Int))), (9, .k (.int .i64 ((i : Nat) : Int)))]) (fun i S => [(3, .b [.k (.bool true), .nil, .s (some 60) (S.map itV)]), (60, .r 122 3 S.length)]) (fun i S => i ≤ l.length ∧ S = (l.take i).map seatK) ((l.length - ·)) (0) ([]) ⟨by omega, rfl⟩ ⟨rfl, rfl, rfl, rfl, trivial⟩ ⟨rfl, rfl, trivial⟩ rfl rfW rfW ?_
  rintro i S ⟨hi, hS⟩
  have hSl : S.length = i := by rw [hS, List.length_map, List.length_take]; omega
  have z1 : ∀ e ∈ S.map itV, e.cells.length = 3 := fun e he => by obtain ⟨x, _, rfl⟩ := List.mem_map.1 he; exact itC_len x
  by_cases h : i < l.length
  · have hs := getD64 hl h
    have c2 := WInt (l.getD i default) hs
    have c3 := PNum (l.getD i default)
    rw [mod256 hs] at c3
    have c4 := PText (numL (l.getD i default))
    have hok : i + 1 ≤ l.length ∧ S ++ [seatK (l.getD i default)] = (l.take (i + 1)).map seatK := ⟨h, by rw [hS]; exact map_take h⟩
    unfold seatK at hok
    have z2 := itC_len (.mk false (numL (l.getD i default)) [])
    have hrf := itC_refs
    have hbr := itC_bare
    clear hS cE
    generalize numL (l.getD i default) = t at *
    exact wk trueW trueW trueW
  · have hS' : S = l.map seatK := by rw [hS, List.take_of_length_le (by omega)]
    subst hS'
    have c2 := cE
    clear hS cE
    exact wk trueW trueW trueW
end Sr
end Lf
end Go.Proofs.Ytnmjpbcbldenmaa

/- The sum of seats. -/
namespace Go.Proofs.Ytnmjpbcbldenmaa
open Go.RowKit Rg Wm Ar
set_option linter.unusedVariables false
set_option maxRecDepth 100000
namespace Lf
open Pk
namespace Sr
theorem seatI_len {l : List Nat} (hl : ∀ s ∈ l, s < 18446744073709551616) (hn : l.length < 2000000) : (enc (seatI l)).length < 1000000000 := by
  have h1 := seatI_size hl
  have h2 := enc_len (seatI l) (by rw [seatI_eq]; simp only [Itm.size, List.length_nil]; omega)
  rw [seatI_eq] at h2 ⊢
  simp only [Itm.size, List.length_nil] at h2
  omega
set_option maxHeartbeats 2000000 in
theorem SeatSum (l : List Nat) (hl : ∀ s ∈ l, s < 18446744073709551616) (hn : l.length < 2000000) : LF Try.prog 24 [.s none (l.map uK)] (fun _ => .a ((sumB (enc (seatI l))).map bK)) none := by
  have c1 := List0
  have hsz := seatI_size hl
  have cE := Pw.Encode (1 + 10 * l.length) (seatI l) (by rw [seatI_eq]; simp only [Itm.size, List.length_nil]; omega) (by omega)
  have cS := Sp.Sum (enc (seatI l)) (by have := seatI_len hl hn; omega)
  have hol := seatI_len hl hn
  have hsl := sumB_len (enc (seatI l))
  rw [seatI_eq] at cE cS hol hsl ⊢
  generalize enc (.mk true [] (l.map seatK)) = out at *
  simp only [itV, itC_eq] at cE
  clear hsz
  generalize sumB out = sm at *
  refine LFx.mk' tt Try.func24 rfl rfl rfl (by kernel_rfl) rfl rfl fun F => ?_
  refine wk ?_ trueW trueW
  refine LC.nilcell 3 2 60 122 3 rfl rfl rfl (by decide) rfl ?_
  refine LC.loop2 (fun i S => [(2, .p 2 0), (3, .p 3 0), (7, .s none (l.map uK)), (8, .k (.int .i64 ((l.length : Nat) : Int))), (9, .k (.int .i64 ((i : Nat) : Int)))]) (fun i S => [(2, .b (List.replicate 32 (.k (.int .u8 0)))), (3, .b [.k (.bool true), .nil, .s (some 60) (S.map itV)]), (60, .r 122 3 S.length)]) (fun i S => i ≤ l.length ∧ S = (l.take i).map seatK) ((l.length - ·)) (0) ([]) ⟨by omega, rfl⟩ ⟨rfl, rfl, rfl, rfl, rfl, trivial⟩ ⟨rfl, rfl, rfl, trivial⟩ rfl rfW rfW ?_
  rintro i S ⟨hi, hS⟩
  have hSl : S.length = i := by rw [hS, List.length_map, List.length_take]; omega
  have z1 : ∀ e ∈ S.map itV, e.cells.length = 3 := fun e he => by obtain ⟨x, _, rfl⟩ := List.mem_map.1 he; exact itC_len x
  by_cases h : i < l.length
  · have hs := getD64 hl h
    have c2 := Wo.IntW (l.getD i default) hs
    have c3 := Pw.Num (l.getD i default)
    rw [mod256 hs] at c3
    have c4 := Text (numL (l.getD i default))
    have hok : i + 1 ≤ l.length ∧ S ++ [seatK (l.getD i default)] = (l.take (i + 1)).map seatK := ⟨h, by rw [hS]; exact map_take h⟩
    unfold seatK at hok
    have z2 := itC_len (.mk false (numL (l.getD i default)) [])
    have hrf := itC_refs
    have hbr := itC_bare
    clear hS cE cS
    generalize numL (l.getD i default) = t at *
    exact wk trueW trueW trueW
  · have hS' : S = l.map seatK := by rw [hS, List.take_of_length_le (by omega)]
    subst hS'
    have c2 := cE
    have c3 := cS
    clear hS cE cS
    exact wk trueW trueW trueW
end Sr
end Lf
end Go.Proofs.Ytnmjpbcbldenmaa

/- Headers' bytes and sums. -/
namespace Go.Proofs.Ytnmjpbcbldenmaa
open Go.RowKit Rg Wm Ar
set_option linter.unusedVariables false
set_option maxRecDepth 100000
namespace Lf
open Pk
theorem bytI_len (l : List UInt8) : (itC (bytI l)).length = 3 := itC_len _
theorem hdrKs_len {h : Hdr} (k : h.ok) : ∀ l ∈ hdrKs h, l.length ≤ 32 := by
  intro l hl
  have h1 := numL64 k.number
  have h2 := numL64 k.time
  have h3 := numL64 k.limit
  have h4 := numL64 k.used
  have h5 := k.parent
  have h6 := k.keeper
  have h7 := k.bloom
  have h8 := k.state
  have h9 := k.txs
  have h10 := k.receipts
  have h11 := k.next
  simp only [hdrKs, List.mem_cons, List.not_mem_nil, or_false] at hl
  rcases hl with rfl | rfl | rfl | rfl | rfl | rfl | rfl | rfl | rfl | rfl | rfl <;> omega
theorem sizeL_byt : ∀ {l : List (List UInt8)}, (∀ x ∈ l, x.length ≤ 32) → Itm.sizeL (l.map bytI) ≤ 34 * l.length
  | [], _ => by simp [Itm.sizeL]
  | s :: r, h => by
    have h1 := h s (by simp)
    have h2 := sizeL_byt (l := r) fun x hx => h x (by simp [hx])
    have h3 : (bytI s).size = 1 + s.length := by unfold bytI; simp [Itm.size, Itm.sizeL]
    simp only [List.map_cons, Itm.sizeL, List.length_cons]
    omega
theorem hdrI_size {h : Hdr} (k : h.ok) : (hdrI h).size ≤ 375 := by
  have h1 := sizeL_byt (hdrKs_len k)
  have h2 : (hdrKs h).length = 11 := rfl
  rw [h2] at h1
  unfold hdrI
  simp only [Itm.size, List.length_nil]
  omega
theorem hdrB_len {h : Hdr} (k : h.ok) : (hdrB h).length ≤ 3375 := by
  have h1 := hdrI_size k
  have h2 := enc_len (hdrI h) (by omega)
  unfold hdrB
  omega
namespace Sr
set_option maxHeartbeats 4000000 in
theorem BWrite (h : Hdr) (k : h.ok) : LF Try.prog 36 [.a (hdrC h)] (fun _ => .s none ((hdrB h).map bK)) none := by
  have cE := PEncode 375 (hdrI h) (hdrI_size k) (by omega)
  unfold hdrB
  unfold hdrI at *
  generalize ho : enc (.mk true [] ((hdrKs h).map bytI)) = out at *
  simp only [itV, itC_eq] at cE
  clear ho
  have c1 := WInt h.number k.number
  have c2 := WInt h.time k.time
  have c3 := WInt h.limit k.limit
  have c4 := WInt h.used k.used
  have c5 := PNum h.number
  have c6 := PNum h.time
  have c7 := PNum h.limit
  have c8 := PNum h.used
  rw [mod256 k.number] at c5
  rw [mod256 k.time] at c6
  rw [mod256 k.limit] at c7
  rw [mod256 k.used] at c8
  have c9 := PList0
  have hfb : FrzBox 1 1 := ⟨⟩
  have hbare := hdrC_bare h
  have hl := hdrC_len k
  have q1 := hqP k
  have q2 := hqK k
  have q3 := hqB k
  have q4 := hqS k
  have q5 := hqT k
  have q6 := hqR k
  have q7 := hqN k
  have ld1 : ∀ {ti : TI}, ti.d.agg = false → ti.part ((hdrC h).drop 32) 0 = some (uK h.number) := fun hd => part_num hd (hd32 k 0)
  have ld2 : ∀ {ti : TI}, ti.d.agg = false → ti.part ((hdrC h).drop 33) 0 = some (uK h.time) := fun hd => part_num hd (hd32 k 1)
  have ld3 : ∀ {ti : TI}, ti.d.agg = false → ti.part ((hdrC h).drop 42) 0 = some (uK h.limit) := fun hd => part_num hd (hd42 k 0)
  have ld4 : ∀ {ti : TI}, ti.d.agg = false → ti.part ((hdrC h).drop 43) 0 = some (uK h.used) := fun hd => part_num hd (hd42 k 1)
  have hrf := hdrC_refs
  refine LFx.mk' tt Try.func36 rfl rfl rfl (by kernel_rfl) rfl rfl fun F => ?_
  refine wk ?_ trueW trueW
  refine LC.nilcell 4 2 60 122 3 rfl rfl rfl (by decide) rfl ?_
  refine LC.loop2 (fun i S => [(4, .p 4 0), (39, .s (some 37) ((hdrKs h).map bV)), (40, .k (.int .i64 ((11 : Nat) : Int))), (41, .k (.int .i64 ((i : Nat) : Int)))]) (fun i S => [(4, .b [.k (.bool true), .nil, .s (some 60) (S.map itV)]), (37, .r 39 1 11), (60, .r 122 3 S.length)]) (fun i S => i ≤ 11 ∧ S = ((hdrKs h).take i).map bytI) ((11 - ·)) (0) ([]) ⟨by omega, rfl⟩ ⟨rfl, rfl, rfl, rfl, trivial⟩ ⟨rfl, rfl, rfl, trivial⟩ rfl rfW rfW ?_
  rintro i S ⟨hi, hS⟩
  have hSl : S.length = i := by
    rw [hS, List.length_map, List.length_take]
    have : (hdrKs h).length = 11 := rfl
    omega
  have z1 : ∀ e ∈ S.map itV, e.cells.length = 3 := fun e he => by obtain ⟨x, _, rfl⟩ := List.mem_map.1 he; exact itC_len x
  have hkl : (hdrKs h).length = 11 := rfl
  clear ld1 ld2 ld3 ld4 q1 q2 q3 q4 q5 q6 q7 hbare hrf c1 c2 c3 c4 c5 c6 c7 c8 c9
  generalize hdrKs h = K at *
  by_cases hlt : i < 11
  · have c2 := PText (K.getD i default)
    have hok : i + 1 ≤ 11 ∧ S ++ [bytI (K.getD i default)] = (K.take (i + 1)).map bytI := ⟨hlt, by rw [hS]; exact map_take (by omega)⟩
    unfold bytI at hok
    have z2 := itC_len (.mk false (K.getD i default) [])
    have hrf := itC_refs
    have hbr := itC_bare
    clear hS cE
    exact wk trueW trueW trueW
  · have hS' : S = K.map bytI := by rw [hS, List.take_of_length_le (by omega)]
    subst hS'
    have c2 := cE
    clear hS cE
    exact wk trueW trueW trueW
end Sr
end Lf
end Go.Proofs.Ytnmjpbcbldenmaa

/- Headers' bytes and sums, as package block has them. -/
namespace Go.Proofs.Ytnmjpbcbldenmaa
open Go.RowKit Rg Wm Ar
set_option linter.unusedVariables false
set_option maxRecDepth 100000
namespace Lf
open Pk
theorem refs_mapbV (m : List (Nat × M)) : ∀ l : List (List UInt8), V.refs.go m (l.map bV) = true
  | [] => rfl
  | x :: r => by rw [List.map_cons, V.refs.go, refs_mapbV m r]; rfl
namespace Sr
theorem ListR0 (ks : List Itm) : LM Try.prog 60 [.s (some 1000) (ks.map itV)] [(1000, .r 122 3 ks.length)] fun o m => o = .ret (.a [.k (.bool true), .nil, .s (some 1000) (ks.map itV)]) ∧ m = [(1000, .r 122 3 ks.length)] := by
  refine LM.enter tt Try.func60 rfl rfl rfl (by kernel_rfl) rfl rfl rfl (fun o mo h => by rw [h.2]; rfl) fun F _ => ?_
  exact wk trueW trueW trueW
theorem ListR (ks : List Itm) (k : Nat) : LM Try.prog 60 [.s (some k) (ks.map itV)] [(k, .r 122 3 ks.length)] fun o m => o = .ret (.a [.k (.bool true), .nil, .s (some k) (ks.map itV)]) ∧ m = [(k, .r 122 3 ks.length)] :=
  LM.gen [1000] [k] (by simp) (by simp) rfl (ListR0 ks) fun ρ hρ => by
    simp at hρ
    refine ⟨?_, ?_, ?_, ?_⟩
    · simp [V.ren, hρ]
    · simp [Mem.ren, M.ren, hρ]
    · simp only [Out.ren, V.ren, V.ren.go, hρ]
    · simp [Mem.ren, M.ren, hρ]
set_option maxHeartbeats 4000000 in
theorem Write (h : Hdr) (k : h.ok) : LF Try.prog 67 [.a (hdrC h)] (fun _ => .s none ((hdrB h).map bK)) none := by
  have cE := Pw.Encode 375 (hdrI h) (hdrI_size k) (by omega)
  unfold hdrB
  unfold hdrI at *
  generalize ho : enc (.mk true [] ((hdrKs h).map bytI)) = out at *
  simp only [itV, itC_eq] at cE
  clear ho
  have c1 := ListR [bytI h.parent]
  have c2 := Text h.parent
  have hfb : FrzBox 1 1 := ⟨⟩
  have hbare := hdrC_bare h
  have hl := hdrC_len k
  have q1 := hqP k
  have z2 := itC_len (bytI h.parent)
  have hrf := itC_refs
  have hbr := itC_bare
  have kn := numL64 k.number
  unfold bytI at c1 z2
  have q2 := hqK k
  have q3 := hqB k
  have q4 := hqS k
  have q5 := hqT k
  have q6 := hqR k
  have q7 := hqN k
  have ld1 : ∀ {ti : TI}, ti.d.agg = false → ti.part ((hdrC h).drop 32) 0 = some (uK h.number) := fun hd => part_num hd (hd32 k 0)
  have ld2 : ∀ {ti : TI}, ti.d.agg = false → ti.part ((hdrC h).drop 33) 0 = some (uK h.time) := fun hd => part_num hd (hd32 k 1)
  have ld3 : ∀ {ti : TI}, ti.d.agg = false → ti.part ((hdrC h).drop 42) 0 = some (uK h.limit) := fun hd => part_num hd (hd42 k 0)
  have ld4 : ∀ {ti : TI}, ti.d.agg = false → ti.part ((hdrC h).drop 43) 0 = some (uK h.used) := fun hd => part_num hd (hd42 k 1)
  have hkl : (hdrKs h).length = 11 := rfl
  refine LFx.mk' tt Try.func67 rfl rfl rfl (by kernel_rfl) rfl rfl fun F => ?_
  refine wk ?_ trueW trueW
  refine LC.loop2 (fun i S => [(1, .q (hdrC h)), (3, .p 3 0), (21, .a ([h.number, h.time, h.limit, h.used].map uK)), (22, .k (.int .i64 ((i : Nat) : Int)))]) (fun i S => [(3, .b [.k (.bool true), .nil, .s (some 11) (S.map itV)]), (11, .r 122 3 S.length)]) (fun i S => i ≤ 4 ∧ S = ((hdrKs h).take (1 + i)).map bytI) ((4 - ·)) (0) ([bytI h.parent]) ⟨by omega, rfl⟩ ⟨rfl, rfl, rfl, rfl, trivial⟩ ⟨rfl, rfl, trivial⟩ rfl rfW rfW ?_
  rintro i S ⟨hi, hS⟩
  have hSl : S.length = 1 + i := by rw [hS, List.length_map, List.length_take]; omega
  have z1 : ∀ e ∈ S.map itV, e.cells.length = 3 := fun e he => by obtain ⟨x, _, rfl⟩ := List.mem_map.1 he; exact itC_len x
  by_cases hlt : i < 4
  · have hx : [h.number, h.time, h.limit, h.used].getD i default < 18446744073709551616 := by
      rcases i with _ | _ | _ | _ | i
      · exact k.number
      · exact k.time
      · exact k.limit
      · exact k.used
      · omega
    have hK : (hdrKs h).getD (1 + i) default = numL ([h.number, h.time, h.limit, h.used].getD i default) := by
      rcases i with _ | _ | _ | _ | i
      · rfl
      · rfl
      · rfl
      · rfl
      · omega
    have c3 := Wo.IntW ([h.number, h.time, h.limit, h.used].getD i default) hx
    have c4 := Pw.Num ([h.number, h.time, h.limit, h.used].getD i default)
    rw [mod256 hx] at c4
    have c5 := Text (numL ([h.number, h.time, h.limit, h.used].getD i default))
    have hok : i + 1 ≤ 4 ∧ S ++ [bytI (numL ([h.number, h.time, h.limit, h.used].getD i default))] = ((hdrKs h).take (1 + (i + 1))).map bytI := ⟨hlt, by rw [hS, ← hK]; exact map_take (by omega)⟩
    unfold bytI at hok
    have z3 := itC_len (.mk false (numL ([h.number, h.time, h.limit, h.used].getD i default)) [])
    have hnl : [h.number, h.time, h.limit, h.used].length = 4 := rfl
    clear hS cE hK hfb hbare q1 q2 q3 q4 q5 q6 q7 ld1 ld2 ld3 ld4 c1 c2 hkl
    generalize [h.number, h.time, h.limit, h.used] = Ns at *
    exact wk trueW trueW trueW
  · obtain rfl : i = 4 := by omega
    clear hfb c1 c2 ld1 ld2 ld3 ld4
    refine wk ?_ trueW trueW
    refine LC.loop2 (fun j S => [(3, .p 3 0), (47, .a ([h.keeper, h.bloom, h.state, h.txs, h.receipts, h.next].map bV)), (48, .k (.int .i64 ((j : Nat) : Int)))]) (fun j S => [(3, .b [.k (.bool true), .nil, .s (some 11) (S.map itV)]), (11, .r 122 3 S.length)]) (fun j S => j ≤ 6 ∧ S = ((hdrKs h).take (5 + j)).map bytI) ((6 - ·)) (0) (S) ⟨by omega, hS⟩ ⟨rfl, rfl, rfl, trivial⟩ ⟨rfl, rfl, trivial⟩ rfl rfW rfW ?_
    rintro j S ⟨hj, hS⟩
    have hSl : S.length = 5 + j := by rw [hS, List.length_map, List.length_take]; omega
    have z1 : ∀ e ∈ S.map itV, e.cells.length = 3 := fun e he => by obtain ⟨x, _, rfl⟩ := List.mem_map.1 he; exact itC_len x
    by_cases hlt : j < 6
    · have hK : (hdrKs h).getD (5 + j) default = [h.keeper, h.bloom, h.state, h.txs, h.receipts, h.next].getD j default := by
        rcases j with _ | _ | _ | _ | _ | _ | j
        · rfl
        · rfl
        · rfl
        · rfl
        · rfl
        · rfl
        · omega
      have c5 := Text ([h.keeper, h.bloom, h.state, h.txs, h.receipts, h.next].getD j default)
      have hok : j + 1 ≤ 6 ∧ S ++ [bytI ([h.keeper, h.bloom, h.state, h.txs, h.receipts, h.next].getD j default)] = ((hdrKs h).take (5 + (j + 1))).map bytI := ⟨hlt, by rw [hS, ← hK]; exact map_take (by omega)⟩
      unfold bytI at hok
      have z3 := itC_len (.mk false ([h.keeper, h.bloom, h.state, h.txs, h.receipts, h.next].getD j default) [])
      have hnl : [h.keeper, h.bloom, h.state, h.txs, h.receipts, h.next].length = 6 := rfl
      clear hS cE hK hbare q1 q2 q3 q4 q5 q6 q7 hkl
      generalize [h.keeper, h.bloom, h.state, h.txs, h.receipts, h.next] = Ns at *
      have hrg := refs_mapbV
      exact wk trueW trueW trueW
    · have hS' : S = (hdrKs h).map bytI := by rw [hS, List.take_of_length_le (by omega)]
      subst hS'
      have c2 := cE
      clear hS cE q1 q2 q3 q4 q5 q6 q7
      exact wk trueW trueW trueW
theorem HSumB (h : Hdr) (k : h.ok) : LF Try.prog 28 [.a (hdrC h)] (fun _ => .a ((sumB (hdrB h)).map bK)) none := by
  have c1 := Write h k
  have hbl := hdrB_len k
  have c2 := Sp.Sum (hdrB h) (by omega)
  have hsl := sumB_len (hdrB h)
  have hl := hdrC_len k
  have hrf := hdrC_refs
  generalize hdrB h = B at *
  generalize sumB B = sm at *
  refine LFx.mk' tt Try.func28 rfl rfl rfl (by kernel_rfl) rfl rfl fun F => ?_
  exact wk trueW trueW trueW
theorem BSum (h : Hdr) (k : h.ok) : LF Try.prog 71 [.a (hdrC h)] (fun _ => .a ((sumB (hdrB h)).map bK)) none := by
  have c1 := BWrite h k
  have hbl := hdrB_len k
  have c2 := SSum (hdrB h) (by omega)
  have hsl := sumB_len (hdrB h)
  have hl := hdrC_len k
  have hrf := hdrC_refs
  generalize hdrB h = B at *
  generalize sumB B = sm at *
  refine LFx.mk' tt Try.func71 rfl rfl rfl (by kernel_rfl) rfl rfl fun F => ?_
  exact wk trueW trueW trueW
end Sr
end Lf
end Go.Proofs.Ytnmjpbcbldenmaa

/- Plain law of sets of seats told by the bits of a number: no program in sight. -/
namespace Go.Proofs.Ytnmjpbcbldenmaa
namespace Lf
namespace St
/-! ### How many bits, and which is the lowest -/
def ones1 (x : Nat) : Nat := (x / 2 ^ 1 &&& 6148914691236517205) + (x &&& 6148914691236517205)
def ones2 (x : Nat) : Nat := (x / 2 ^ 2 &&& 3689348814741910323) + (x &&& 3689348814741910323)
def ones3 (x : Nat) : Nat := (x / 2 ^ 4 + x) &&& 1085102592571150095
def ones4 (x : Nat) : Nat := x + x / 2 ^ 8
def ones5 (x : Nat) : Nat := x + x / 2 ^ 16
def ones6 (x : Nat) : Nat := x + x / 2 ^ 32
def ones (x : Nat) : Nat := ones6 (ones5 (ones4 (ones3 (ones2 (ones1 x))))) &&& 127
theorem ones1_le (x : Nat) : ones1 x ≤ 12297829382473034410 := by
  have h1 := Nat.and_le_right (n := x / 2 ^ 1) (m := 6148914691236517205)
  have h2 := Nat.and_le_right (n := x) (m := 6148914691236517205)
  unfold ones1; omega
theorem ones2_le (x : Nat) : ones2 x ≤ 7378697629483820646 := by
  have h1 := Nat.and_le_right (n := x / 2 ^ 2) (m := 3689348814741910323)
  have h2 := Nat.and_le_right (n := x) (m := 3689348814741910323)
  unfold ones2; omega
theorem ones3_le (x : Nat) : ones3 x ≤ 1085102592571150095 := Nat.and_le_right
/-- How many of the first k bits of x are set. -/
def pc (x : Nat) : Nat → Nat
  | 0 => 0
  | k + 1 => pc x k + if x.testBit k then 1 else 0
theorem pc_le (x : Nat) : ∀ k, pc x k ≤ k
  | 0 => Nat.le_refl _
  | k + 1 => by have := pc_le x k; simp only [pc]; split <;> omega
theorem pc_and (x y : Nat) : ∀ k, pc x k + pc y k ≤ pc (x &&& y) k + k
  | 0 => by simp [pc]
  | k + 1 => by
    have := pc_and x y k
    simp only [pc, Nat.testBit_and]
    cases x.testBit k <;> cases y.testBit k <;> simp <;> omega
/-- All numbers below 2^n, by halves. -/
def allB (p : Nat → Bool) : Nat → Nat → Bool
  | 0, b => p b
  | n + 1, b => allB p n (2 * b) && allB p n (2 * b + 1)
theorem allB_spec {p : Nat → Bool} : ∀ (n b : Nat), allB p n b = true → ∀ x, b * 2 ^ n ≤ x → x < (b + 1) * 2 ^ n → p x = true
  | 0, b, h, x, h1, h2 => by
    obtain rfl : x = b := by simp at h1 h2; omega
    exact h
  | n + 1, b, h, x, h1, h2 => by
    simp only [allB, Bool.and_eq_true] at h
    have e : 2 ^ (n + 1) = 2 * 2 ^ n := by rw [Nat.pow_succ]; omega
    rw [e] at h1 h2
    have e1 : b * (2 * 2 ^ n) = 2 * b * 2 ^ n := by rw [← Nat.mul_assoc, Nat.mul_comm b 2]
    have e2 : (b + 1) * (2 * 2 ^ n) = (2 * b + 2) * 2 ^ n := by rw [← Nat.mul_assoc, Nat.add_mul]; rw [Nat.mul_comm b 2]
    by_cases hx : x < (2 * b + 1) * 2 ^ n
    · exact allB_spec n (2 * b) h.1 x (by omega) hx
    · exact allB_spec n (2 * b + 1) h.2 x (by omega) (by rw [e2] at h2; exact h2)
theorem all8 {p : Nat → Bool} (h : allB p 8 0 = true) {x : Nat} (hx : x < 256) : p x = true := allB_spec 8 0 h x (by simp) (by simpa using hx)
theorem and_split (k a b : Nat) : a &&& b = 2 ^ k * ((a / 2 ^ k) &&& (b / 2 ^ k)) + ((a % 2 ^ k) &&& (b % 2 ^ k)) := by
  have h1 : (a &&& b) / 2 ^ k = a / 2 ^ k &&& b / 2 ^ k := Nat.and_div_two_pow
  have h2 : (a &&& b) % 2 ^ k = a % 2 ^ k &&& b % 2 ^ k := Nat.and_mod_two_pow
  rw [← h1, ← h2, Nat.div_add_mod]
theorem and_bytes {h l M : Nat} (hl : l < 256) : (256 * h + l) &&& M = 256 * (h &&& M / 256) + (l &&& M % 256) := by
  have := and_split 8 (256 * h + l) M
  simp only [Nat.reducePow] at this
  rw [this, show (256 * h + l) / 256 = h by omega, show (256 * h + l) % 256 = l by omega]
/-- The three first steps, on a byte. -/
def f1 (x : Nat) : Nat := (x / 2 &&& 85) + (x &&& 85)
def f2 (x : Nat) : Nat := (x / 4 &&& 51) + (x &&& 51)
def f3 (x : Nat) : Nat := (x / 16 + x) &&& 15
theorem f1_le (x : Nat) : f1 x ≤ 170 := by
  have h1 := Nat.and_le_right (n := x / 2) (m := 85)
  have h2 := Nat.and_le_right (n := x) (m := 85)
  unfold f1; omega
theorem f_byte {x : Nat} (hx : x < 256) : f1 x < 256 ∧ (f2 (f1 x) ≤ 68 ∧ f2 (f1 x) % 16 ≤ 4) ∧ f3 (f2 (f1 x)) = pc x 8 := by
  have := all8 (p := fun x => (Nat.ble (f2 (f1 x)) 68 && Nat.ble (f2 (f1 x) % 16) 4) && Nat.beq (f3 (f2 (f1 x))) (pc x 8)) (by kernel_rfl) hx
  simp only [Bool.and_eq_true] at this
  have h1 := f1_le x
  exact ⟨by omega, ⟨Nat.le_of_ble_eq_true this.1.1, Nat.le_of_ble_eq_true this.1.2⟩, Nat.eq_of_beq_eq_true this.2⟩
theorem m1 {x : Nat} (hx : x < 256) : (x / 2 &&& 24019198012642645) = (x / 2 &&& 85) ∧ (x &&& 24019198012642645) = (x &&& 85) ∧ ((128 + x / 2) &&& 85) = (x / 2 &&& 85) := by
  have := all8 (p := fun x => Nat.beq (x / 2 &&& 24019198012642645) (x / 2 &&& 85) && (Nat.beq (x &&& 24019198012642645) (x &&& 85) && Nat.beq ((128 + x / 2) &&& 85) (x / 2 &&& 85))) (by kernel_rfl) hx
  simp only [Bool.and_eq_true] at this
  exact ⟨Nat.eq_of_beq_eq_true this.1, Nat.eq_of_beq_eq_true this.2.1, Nat.eq_of_beq_eq_true this.2.2⟩
theorem m2 {x : Nat} (hx : x < 256) : (x / 4 &&& 14411518807585587) = (x / 4 &&& 51) ∧ (x &&& 14411518807585587) = (x &&& 51) ∧ ((64 + x / 4) &&& 51) = (x / 4 &&& 51) ∧ ((128 + x / 4) &&& 51) = (x / 4 &&& 51) ∧ ((192 + x / 4) &&& 51) = (x / 4 &&& 51) := by
  have := all8 (p := fun x => Nat.beq (x / 4 &&& 14411518807585587) (x / 4 &&& 51) && (Nat.beq (x &&& 14411518807585587) (x &&& 51) && (Nat.beq ((64 + x / 4) &&& 51) (x / 4 &&& 51) && (Nat.beq ((128 + x / 4) &&& 51) (x / 4 &&& 51) && Nat.beq ((192 + x / 4) &&& 51) (x / 4 &&& 51))))) (by kernel_rfl) hx
  simp only [Bool.and_eq_true] at this
  exact ⟨Nat.eq_of_beq_eq_true this.1, Nat.eq_of_beq_eq_true this.2.1, Nat.eq_of_beq_eq_true this.2.2.1, Nat.eq_of_beq_eq_true this.2.2.2.1, Nat.eq_of_beq_eq_true this.2.2.2.2⟩
theorem ones1_bytes {h l : Nat} (hh : h < 256) (hl : l < 256) : ones1 (256 * h + l) = 256 * f1 h + f1 l := by
  unfold ones1 f1
  obtain ⟨a1, a2, _⟩ := m1 hh
  obtain ⟨b1, _, b3⟩ := m1 hl
  rw [and_bytes hl]
  have e : (256 * h + l) / 2 ^ 1 = 256 * (h / 2) + (128 * (h % 2) + l / 2) := by omega
  rw [e, and_bytes (by omega)]
  have c : (128 * (h % 2) + l / 2) &&& 85 = l / 2 &&& 85 := by
    rcases Nat.mod_two_eq_zero_or_one h with q | q <;> rw [q]
    · simp
    · exact b3
  simp only [Nat.reduceDiv, Nat.reduceMod, a1, a2, c]
  omega
theorem ones2_bytes {h l : Nat} (hh : h < 256) (hl : l < 256) : ones2 (256 * h + l) = 256 * f2 h + f2 l := by
  unfold ones2 f2
  obtain ⟨a1, a2, _⟩ := m2 hh
  obtain ⟨b1, _, b3, b4, b5⟩ := m2 hl
  rw [and_bytes hl]
  have e : (256 * h + l) / 2 ^ 2 = 256 * (h / 4) + (64 * (h % 4) + l / 4) := by omega
  rw [e, and_bytes (by omega)]
  have c : (64 * (h % 4) + l / 4) &&& 51 = l / 4 &&& 51 := by
    have q : h % 4 = 0 ∨ h % 4 = 1 ∨ h % 4 = 2 ∨ h % 4 = 3 := by omega
    rcases q with q | q | q | q <;> rw [q]
    · simp
    · exact b3
    · exact b4
    · exact b5
  simp only [Nat.reduceDiv, Nat.reduceMod, a1, a2, c]
  omega
theorem and15 (x : Nat) : x &&& 15 = x % 16 := Nat.and_two_pow_sub_one_eq_mod (n := 4) x
theorem and127 (x : Nat) : x &&& 127 = x % 128 := Nat.and_two_pow_sub_one_eq_mod (n := 7) x
theorem m4 {x : Nat} (hx : x < 256) : (x &&& 4238682002231055) = (x &&& 15) := by
  have := all8 (p := fun x => Nat.beq (x &&& 4238682002231055) (x &&& 15)) (by kernel_rfl) hx
  exact Nat.eq_of_beq_eq_true this
theorem ones3_bytes {h l : Nat} (hh : h ≤ 68 ∧ h % 16 ≤ 4) (hl : l ≤ 68 ∧ l % 16 ≤ 4) : ones3 (256 * h + l) = 256 * f3 h + f3 l := by
  unfold ones3 f3
  have e : (256 * h + l) / 2 ^ 4 + (256 * h + l) = 256 * (h / 16 + h) + (16 * (h % 16) + l / 16 + l) := by omega
  rw [e, and_split 8]
  simp only [Nat.reducePow]
  generalize hq : 16 * (h % 16) + l / 16 + l = q
  have c1 : (256 * (h / 16 + h) + q) / 256 = h / 16 + h + q / 256 := by omega
  have c2 : (256 * (h / 16 + h) + q) % 256 = q % 256 := by omega
  rw [c1, c2]
  simp only [Nat.reduceDiv, Nat.reduceMod]
  rw [show q / 256 = 0 by omega, Nat.add_zero, m4 (by omega), show q % 256 = q by omega]
  simp only [and15]
  omega
theorem ones_bytes {h l : Nat} (hh : h < 256) (hl : l < 256) : ones (256 * h + l) = pc h 8 + pc l 8 := by
  obtain ⟨a1, a2, a3⟩ := f_byte hh
  obtain ⟨b1, b2, b3⟩ := f_byte hl
  unfold ones
  rw [ones1_bytes hh hl, ones2_bytes a1 b1, ones3_bytes a2 b2, a3, b3]
  have k1 := pc_le h 8
  have k2 := pc_le l 8
  have e4 : ones4 (256 * pc h 8 + pc l 8) = 257 * pc h 8 + pc l 8 := by
    unfold ones4
    have : (256 * pc h 8 + pc l 8) / 2 ^ 8 = pc h 8 := by simp only [Nat.reducePow]; omega
    omega
  have e5 : ones5 (257 * pc h 8 + pc l 8) = 257 * pc h 8 + pc l 8 := by
    unfold ones5
    rw [Nat.div_eq_of_lt (by simp only [Nat.reducePow]; omega)]; omega
  have e6 : ones6 (257 * pc h 8 + pc l 8) = 257 * pc h 8 + pc l 8 := by
    unfold ones6
    rw [Nat.div_eq_of_lt (by simp only [Nat.reducePow]; omega)]; omega
  rw [e4, e5, e6, and127]
  omega
theorem pc_bytes {h l : Nat} (hl : l < 256) : pc (256 * h + l) 16 = pc h 8 + pc l 8 := by
  have lo : ∀ i, i < 8 → (256 * h + l).testBit i = l.testBit i := fun i hi => by
    have := Nat.testBit_two_pow_mul_add h (i := 8) (b := l) (by simpa using hl) i
    simpa [hi] using this
  have hi : ∀ i, (256 * h + l).testBit (8 + i) = h.testBit i := fun i => by
    have := Nat.testBit_two_pow_mul_add h (i := 8) (b := l) (by simpa using hl) (8 + i)
    rw [if_neg (by omega), show 8 + i - 8 = i by omega] at this
    exact this
  simp only [pc, Nat.zero_add, lo 0 (by omega), lo 1 (by omega), lo 2 (by omega), lo 3 (by omega), lo 4 (by omega), lo 5 (by omega), lo 6 (by omega), lo 7 (by omega), hi 0, hi 1, hi 2, hi 3, hi 4, hi 5, hi 6, hi 7,
    show (256 * h + l).testBit 8 = h.testBit 0 from hi 0, show (256 * h + l).testBit 9 = h.testBit 1 from hi 1, show (256 * h + l).testBit 10 = h.testBit 2 from hi 2, show (256 * h + l).testBit 11 = h.testBit 3 from hi 3, show (256 * h + l).testBit 12 = h.testBit 4 from hi 4, show (256 * h + l).testBit 13 = h.testBit 5 from hi 5, show (256 * h + l).testBit 14 = h.testBit 6 from hi 6, show (256 * h + l).testBit 15 = h.testBit 7 from hi 7]
  omega
theorem ones_pc {x : Nat} (hx : x < 65536) : ones x = pc x 16 := by
  have e : x = 256 * (x / 256) + x % 256 := by omega
  rw [e, ones_bytes (by omega) (by omega), pc_bytes (by omega)]
/-! ### The lowest bit -/
def tz : Nat → Nat → Nat
  | 0, _ => 0
  | k + 1, x => if x % 2 = 1 then 0 else 1 + tz k (x / 2)
theorem compl {k y : Nat} (h : y < 2 ^ k) : y &&& (2 ^ k - 1 - y) = 0 := by
  apply Nat.eq_of_testBit_eq
  intro i
  rw [Nat.testBit_and, show 2 ^ k - 1 - y = 2 ^ k - (y + 1) by omega, Nat.testBit_two_pow_sub_succ h, Nat.zero_testBit]
  cases y.testBit i <;> simp
theorem low_neg : ∀ k x, 0 < x → x < 2 ^ k → x &&& (2 ^ k - x) = 2 ^ tz k x ∧ tz k x < k
  | 0, x, h0, h1 => by simp at h1; omega
  | k + 1, x, h0, h1 => by
    have e : 2 ^ (k + 1) = 2 * 2 ^ k := by rw [Nat.pow_succ]; omega
    have hp : 0 < 2 ^ k := Nat.pow_pos (by omega)
    rw [and_split 1, e]
    rw [e] at h1
    simp only [Nat.pow_one]
    by_cases ho : x % 2 = 1
    · have t0 : tz (k + 1) x = 0 := by simp [tz, ho]
      rw [t0, ho, show (2 * 2 ^ k - x) / 2 = 2 ^ k - 1 - x / 2 by omega, show (2 * 2 ^ k - x) % 2 = 1 by omega, compl (by omega)]
      exact ⟨rfl, by omega⟩
    · have t1 : tz (k + 1) x = 1 + tz k (x / 2) := by simp [tz, ho]
      obtain ⟨i1, i2⟩ := low_neg k (x / 2) (by omega) (by omega)
      rw [t1, show x % 2 = 0 by omega, show (2 * 2 ^ k - x) / 2 = 2 ^ k - x / 2 by omega, i1, Nat.zero_and, Nat.add_comm 1, Nat.pow_succ]
      exact ⟨by omega, by omega⟩
theorem tz_bits : ∀ k x, 0 < x → x < 2 ^ k → x.testBit (tz k x) = true ∧ ∀ i, (x &&& (x - 1)).testBit i = (x.testBit i && !decide (i = tz k x))
  | 0, x, h0, h1 => by simp at h1; omega
  | k + 1, x, h0, h1 => by
    have e : 2 ^ (k + 1) = 2 * 2 ^ k := by rw [Nat.pow_succ]; omega
    rw [e] at h1
    by_cases ho : x % 2 = 1
    · have t0 : tz (k + 1) x = 0 := by simp [tz, ho]
      rw [t0]
      refine ⟨by rw [Nat.testBit_zero]; simpa using ho, fun i => ?_⟩
      cases i with
      | zero => rw [Nat.testBit_and, Nat.testBit_zero, Nat.testBit_zero]; simp; omega
      | succ i => rw [Nat.testBit_and, Nat.testBit_succ, Nat.testBit_succ, show (x - 1) / 2 = x / 2 by omega]; simp
    · have t1 : tz (k + 1) x = tz k (x / 2) + 1 := by simp [tz, ho]; omega
      obtain ⟨i1, i2⟩ := tz_bits k (x / 2) (by omega) (by omega)
      rw [t1]
      refine ⟨by rw [Nat.testBit_succ]; exact i1, fun i => ?_⟩
      cases i with
      | zero => rw [Nat.testBit_and, Nat.testBit_zero]; simp; omega
      | succ i =>
        have := i2 i
        rw [Nat.testBit_and] at this
        rw [Nat.testBit_and, Nat.testBit_succ, Nat.testBit_succ, show (x - 1) / 2 = x / 2 - 1 by omega, this]
        simp
def deB : List Nat := [0, 1, 56, 2, 57, 49, 28, 3, 61, 58, 42, 50, 38, 29, 17, 4, 62, 47, 59, 36, 45, 43, 51, 22, 53, 39, 33, 30, 24, 18, 12, 5, 63, 55, 48, 27, 60, 41, 37, 16, 46, 35, 44, 21, 52, 32, 23, 11, 54, 26, 40, 15, 34, 20, 31, 10, 25, 14, 19, 9, 13, 8, 7, 6]
def deV : List Value := deB.map fun n => .int .u8 ((n : Nat) : Int)
def deI (y : Nat) : Nat := y * 285870213051353865 % 2 ^ 64 / 2 ^ 58
theorem deI_lt (y : Nat) : deI y < 64 := by
  have h := Nat.mod_lt (y * 285870213051353865) (y := 2 ^ 64) (by decide)
  unfold deI
  generalize y * 285870213051353865 % 2 ^ 64 = z at *
  simp only [Nat.reducePow] at *
  omega
theorem de_all : allB (fun t => Nat.beq (deB.getD (deI (2 ^ t)) 99) t) 6 0 = true := by kernel_rfl
theorem de_at {t : Nat} (h : t < 64) : deB.getD (deI (2 ^ t)) 99 = t := by
  have h1 := allB_spec 6 0 de_all t (Nat.zero_le _) h
  exact Nat.eq_of_beq_eq_true h1
theorem de_len : deB.length = 64 := rfl
theorem deV_at {k t : Nat} (hk : k < 64) (h : deB.getD k 99 = t) : deV[k]? = some (.int .u8 ((t : Nat) : Int)) := by
  rw [List.getD_eq_getElem?_getD, List.getElem?_eq_getElem (by rw [de_len]; exact hk), Option.getD_some] at h
  unfold deV
  rw [List.getElem?_map, List.getElem?_eq_getElem (by rw [de_len]; exact hk), h]
  rfl
theorem de_get {t : Nat} (h : t < 64) : deI (2 ^ t) < 64 ∧ deV[deI (2 ^ t)]? = some (.int .u8 ((t : Nat) : Int)) :=
  ⟨deI_lt _, deV_at (deI_lt _) (de_at h)⟩
end St
end Lf
end Go.Proofs.Ytnmjpbcbldenmaa

/- Seats: counting bits, the lowest bit, low, Quorum. -/
namespace Go.Proofs.Ytnmjpbcbldenmaa
open Go.RowKit Rg
set_option linter.unusedVariables false
set_option maxRecDepth 100000
namespace Lf
namespace St
theorem and_lit {a m : Nat} (ha : a < 18446744073709551616) (hm : m < 18446744073709551616) {z : Int} (hz : z = ((m : Nat) : Int)) : IntKind.u64.wrap (((BitVec.ofInt IntKind.u64.bits ((a : Nat) : Int) &&& BitVec.ofInt IntKind.u64.bits z).toNat : Nat) : Int) = ((a &&& m : Nat) : Int) := by
  rw [hz]; exact and_u64 ha hm
theorem OnesCount64 (x : Nat) (hx : x < 18446744073709551616) : LF Try.prog 89 [uK x] (fun _ => .k (.int .i64 ((ones x : Nat) : Int))) none := by
  have h0 : x / 2 ^ 1 < 18446744073709551616 := Nat.lt_of_le_of_lt (Nat.div_le_self _ _) hx
  have a1 := Nat.and_le_right (n := x / 2 ^ 1) (m := 6148914691236517205)
  have a2 := Nat.and_le_right (n := x) (m := 6148914691236517205)
  have b1 := ones1_le x
  have e1 : ones1 x = (x / 2 ^ 1 &&& 6148914691236517205) + (x &&& 6148914691236517205) := rfl
  generalize hy1 : ones1 x = y1 at *
  have h1 : y1 / 2 ^ 2 < 18446744073709551616 := Nat.lt_of_le_of_lt (Nat.div_le_self _ _) (by omega)
  have a3 := Nat.and_le_right (n := y1 / 2 ^ 2) (m := 3689348814741910323)
  have a4 := Nat.and_le_right (n := y1) (m := 3689348814741910323)
  have b2 := ones2_le y1
  have e2 : ones2 y1 = (y1 / 2 ^ 2 &&& 3689348814741910323) + (y1 &&& 3689348814741910323) := rfl
  generalize hy2 : ones2 y1 = y2 at *
  have h2 : y2 / 2 ^ 4 + y2 < 18446744073709551616 := by simp only [Nat.reducePow]; omega
  have b3 := ones3_le y2
  have e3 : ones3 y2 = (y2 / 2 ^ 4 + y2) &&& 1085102592571150095 := rfl
  generalize hy3 : ones3 y2 = y3 at *
  have h3 : y3 + y3 / 2 ^ 8 < 1152921504606846976 := by simp only [Nat.reducePow]; omega
  have e4 : ones4 y3 = y3 + y3 / 2 ^ 8 := rfl
  generalize hy4 : ones4 y3 = y4 at *
  have h4 : y4 + y4 / 2 ^ 16 < 2305843009213693952 := by simp only [Nat.reducePow]; omega
  have e5 : ones5 y4 = y4 + y4 / 2 ^ 16 := rfl
  generalize hy5 : ones5 y4 = y5 at *
  have h5 : y5 + y5 / 2 ^ 32 < 4611686018427387904 := by simp only [Nat.reducePow]; omega
  have e6 : ones6 y5 = y5 + y5 / 2 ^ 32 := rfl
  generalize hy6 : ones6 y5 = y6 at *
  have e7 : ones x = y6 &&& 127 := by unfold ones; rw [hy1, hy2, hy3, hy4, hy5, hy6]
  rw [e7]
  have w1 : IntKind.u64.wrap (((BitVec.ofInt IntKind.u64.bits ((x / 2 ^ 1 : Nat) : Int) &&& BitVec.ofInt IntKind.u64.bits 6148914691236517205).toNat : Nat) : Int) = ((x / 2 ^ 1 &&& 6148914691236517205 : Nat) : Int) := and_lit h0 (by decide) (by decide)
  have w2 : IntKind.u64.wrap (((BitVec.ofInt IntKind.u64.bits ((x : Nat) : Int) &&& BitVec.ofInt IntKind.u64.bits 6148914691236517205).toNat : Nat) : Int) = ((x &&& 6148914691236517205 : Nat) : Int) := and_lit hx (by decide) (by decide)
  have w3 : IntKind.u64.wrap (((BitVec.ofInt IntKind.u64.bits ((y1 / 2 ^ 2 : Nat) : Int) &&& BitVec.ofInt IntKind.u64.bits 3689348814741910323).toNat : Nat) : Int) = ((y1 / 2 ^ 2 &&& 3689348814741910323 : Nat) : Int) := and_lit h1 (by decide) (by decide)
  have w4 : IntKind.u64.wrap (((BitVec.ofInt IntKind.u64.bits ((y1 : Nat) : Int) &&& BitVec.ofInt IntKind.u64.bits 3689348814741910323).toNat : Nat) : Int) = ((y1 &&& 3689348814741910323 : Nat) : Int) := and_lit (by omega) (by decide) (by decide)
  have w5 : IntKind.u64.wrap (((BitVec.ofInt IntKind.u64.bits ((y2 / 2 ^ 4 + y2 : Nat) : Int) &&& BitVec.ofInt IntKind.u64.bits 1085102592571150095).toNat : Nat) : Int) = ((y2 / 2 ^ 4 + y2 &&& 1085102592571150095 : Nat) : Int) := and_lit h2 (by decide) (by decide)
  subst e1; subst e2; subst e3; subst e4; subst e5; subst e6
  clear hy1 hy2 hy3 hy4 hy5 hy6 e7
  refine LFx.mk' tt Try.func89 rfl rfl rfl (by kernel_rfl) rfl rfl fun F => ?_
  exact wk trueW trueW trueW
/-- The n lowest bits. -/
def lowN (n : Nat) : Nat := if 64 ≤ n then 18446744073709551615 else 2 ^ n - 1
theorem low (n : Nat) (hn : n < 9223372036854775808) : LF Try.prog 88 [.k (.int .i64 ((n : Nat) : Int))] (fun _ => uK (lowN n)) none := by
  unfold lowN
  by_cases h : 64 ≤ n
  · rw [if_pos h]
    refine LFx.mk' tt Try.func88 rfl rfl rfl (by kernel_rfl) rfl rfl fun F => ?_
    exact wk trueW trueW trueW
  · rw [if_neg h]
    have h1 : 2 ^ n < 18446744073709551616 := Nat.lt_of_lt_of_le (Nat.pow_lt_pow_right (by omega) (show n < 64 by omega)) (by decide)
    have h2 : 0 < 2 ^ n := Nat.pow_pos (by omega)
    have hw : IntKind.u64.wrap (1 * 2 ^ (min ((n : Nat) : Int).toNat IntKind.u64.bits)) = ((2 ^ n : Nat) : Int) := by
      have := shl_u64 (a := 1) (s := n) (by omega)
      rw [Nat.one_mul, Nat.mod_eq_of_lt h1] at this
      exact this
    generalize 2 ^ n = z at *
    refine LFx.mk' tt Try.func88 rfl rfl rfl (by kernel_rfl) rfl rfl fun F => ?_
    exact wk trueW trueW trueW
/-- Is the mask a quorum of n seats? -/
def quo (x n : Nat) : Bool := decide (0 < n ∧ n ≤ 16 ∧ andn x (lowN n) = 0 ∧ 2 * n ≤ 3 * ones x)
theorem lowN_lt (n : Nat) : lowN n < 18446744073709551616 := by
  unfold lowN
  split
  · decide
  · have h1 : 2 ^ n < 18446744073709551616 := Nat.lt_of_lt_of_le (Nat.pow_lt_pow_right (by omega) (show n < 64 by omega)) (by decide)
    omega
theorem ones_lt (x : Nat) : ones x ≤ 127 := Nat.and_le_right
theorem Quorum (x n : Nat) (hx : x < 18446744073709551616) (hn : n < 4611686018427387904) : LF Try.prog 57 [uK x, .k (.int .i64 ((n : Nat) : Int))] (fun _ => .k (.bool (quo x n))) none := by
  have c1 := low n (by omega)
  have c2 := OnesCount64 x hx
  have h1 := lowN_lt n
  have h2 := ones_lt x
  have h3 := andn_le x (lowN n)
  unfold quo
  generalize lowN n = lo at *
  generalize ones x = k at *
  by_cases a : 0 < n
  · by_cases b : n ≤ 16
    · by_cases c : andn x lo = 0
      · by_cases d : 2 * n ≤ 3 * k
        · rw [decide_eq_true ⟨a, b, c, d⟩]
          refine LFx.mk' tt Try.func57 rfl rfl rfl (by kernel_rfl) rfl rfl fun F => ?_
          exact wk trueW trueW trueW
        · rw [decide_eq_false (fun h => d h.2.2.2)]
          refine LFx.mk' tt Try.func57 rfl rfl rfl (by kernel_rfl) rfl rfl fun F => ?_
          exact wk trueW trueW trueW
      · rw [decide_eq_false (fun h => c h.2.2.1)]
        refine LFx.mk' tt Try.func57 rfl rfl rfl (by kernel_rfl) rfl rfl fun F => ?_
        exact wk trueW trueW trueW
    · rw [decide_eq_false (fun h => b h.2.1)]
      refine LFx.mk' tt Try.func57 rfl rfl rfl (by kernel_rfl) rfl rfl fun F => ?_
      exact wk trueW trueW trueW
  · rw [decide_eq_false (fun h => a h.1)]
    refine LFx.mk' tt Try.func57 rfl rfl rfl (by kernel_rfl) rfl rfl fun F => ?_
    exact wk trueW trueW trueW
end St
end Lf
end Go.Proofs.Ytnmjpbcbldenmaa

/- Seats: Right, Named. -/
namespace Go.Proofs.Ytnmjpbcbldenmaa
open Go.RowKit Rg
set_option linter.unusedVariables false
set_option maxRecDepth 100000
namespace Lf
namespace St
/-- The seats rise. -/
def asc (l : List Nat) : Prop := ∀ j, 0 < j → j < l.length → l.getD (j - 1) default < l.getD j default
theorem getD_lt64 {l : List Nat} (hl : ∀ x ∈ l, x < 18446744073709551616) (i : Nat) : l.getD i default < 18446744073709551616 := by
  by_cases h : i < l.length
  · rw [List.getD_eq_getElem?_getD, List.getElem?_eq_getElem h]; exact hl _ (List.getElem_mem h)
  · rw [List.getD_eq_getElem?_getD, List.getElem?_eq_none (by omega)]; decide
theorem Right (l : List Nat) (hl : ∀ x ∈ l, x < 18446744073709551616) (hn : l.length < 4611686018427387904) :
    (asc l ∧ 0 < l.length ∧ l.length ≤ 16 → LF Try.prog 54 [.s none (l.map uK)] (fun _ => .k (.bool true)) none) ∧
    (¬ (asc l ∧ 0 < l.length ∧ l.length ≤ 16) → LF Try.prog 54 [.s none (l.map uK)] (fun _ => .k (.bool false)) none) := by
  constructor
  · rintro ⟨ha, h1, h2⟩
    refine LFx.mk' tt Try.func54 rfl rfl rfl (by kernel_rfl) rfl rfl fun F => ?_
    refine wk ?_ trueW trueW
    refine LC.loopN (fun i => [(0, .s none (l.map uK)), (3, .k (.int .i64 ((i : Nat) : Int)))]) (fun i => []) (fun i => 1 ≤ i ∧ i ≤ l.length) ((l.length - ·)) (1) ⟨by omega, by omega⟩ ⟨rfl, rfl, trivial⟩ trivial rfl rfW rfW ?_
    rintro i ⟨p1, p2⟩
    by_cases hi : i < l.length
    · have hlt := ha i (by omega) hi
      have g1 := getD_lt64 hl i
      have hok : 1 ≤ i + 1 ∧ i + 1 ≤ l.length := ⟨by omega, by omega⟩
      exact wk trueW trueW trueW
    · exact wk trueW trueW trueW
  · intro hno
    refine LFx.mk' tt Try.func54 rfl rfl rfl (by kernel_rfl) rfl rfl fun F => ?_
    refine wk ?_ trueW trueW
    refine LC.loopN (fun i => [(0, .s none (l.map uK)), (3, .k (.int .i64 ((i : Nat) : Int)))]) (fun i => []) (fun i => 1 ≤ i ∧ (∀ j, 0 < j → j < i → j < l.length → l.getD (j - 1) default < l.getD j default)) ((l.length - ·)) (1) ⟨by omega, fun j h1 h2 => by omega⟩ ⟨rfl, rfl, trivial⟩ trivial rfl rfW rfW ?_
    rintro i ⟨p1, p2⟩
    by_cases hi : i < l.length
    · by_cases hlt : l.getD (i - 1) default < l.getD i default
      · have hok : 1 ≤ i + 1 ∧ (∀ j, 0 < j → j < i + 1 → j < l.length → l.getD (j - 1) default < l.getD j default) := ⟨by omega, fun j h1 h2 h3 => by
          by_cases e : j = i
          · rw [e]; exact hlt
          · exact p2 j h1 (by omega) h3⟩
        have g1 := getD_lt64 hl i
        exact wk trueW trueW trueW
      · exact wk trueW trueW trueW
    · have ha : asc l := fun j h1 h2 => p2 j h1 (by omega) h2
      by_cases h0 : 0 < l.length
      · have h16 : ¬ l.length ≤ 16 := fun h => hno ⟨ha, h0, h⟩
        clear p2 ha hno
        exact wk trueW trueW trueW
      · clear p2 ha hno
        exact wk trueW trueW trueW
/-- The seats at the mask's bits. -/
def named (l : List Nat) (m : Nat) : List Nat :=
  if h : m = 0 then [] else (if tz 64 m < l.length then [l.getD (tz 64 m) default] else []) ++ named l (m &&& (m - 1))
termination_by m
decreasing_by
  have := Nat.and_le_right (n := m) (m := m - 1)
  omega
theorem named_0 (l : List Nat) : named l 0 = [] := by rw [named]; simp
theorem named_s (l : List Nat) {m : Nat} (h : m ≠ 0) : named l m = (if tz 64 m < l.length then [l.getD (tz 64 m) default] else []) ++ named l (m &&& (m - 1)) := by
  rw [named]; simp [h]
theorem pc_clear {x y t : Nat} (hy : ∀ i, y.testBit i = (x.testBit i && !decide (i = t))) (ht : x.testBit t = true) : ∀ k, pc y k + (if t < k then 1 else 0) = pc x k
  | 0 => by simp [pc]
  | k + 1 => by
    have := pc_clear hy ht k
    simp only [pc, hy k]
    by_cases e : k = t
    · subst e
      simp [ht] at this ⊢
      omega
    · simp only [e, decide_false, Bool.not_false, Bool.and_true]
      by_cases h1 : t < k
      · simp only [h1, if_true, show t < k + 1 by omega] at this ⊢; omega
      · simp only [h1, if_false, show ¬ t < k + 1 by omega] at this ⊢; omega
theorem named_le (l : List Nat) : ∀ m, m < 18446744073709551616 → (named l m).length ≤ pc m 64 := by
  intro m
  induction m using Nat.strongRecOn with
  | ind m ih =>
    intro hm
    by_cases h : m = 0
    · subst h; rw [named_0]; simp
    · rw [named_s l h]
      have h1 := Nat.and_le_right (n := m) (m := m - 1)
      have h2 := ih (m &&& (m - 1)) (by omega) (by omega)
      obtain ⟨b1, b2⟩ := tz_bits 64 m (by omega) (by simpa using hm)
      have h3 := pc_clear b2 b1 64
      rw [if_pos (low_neg 64 m (by omega) (by simpa using hm)).2] at h3
      rw [List.length_append]
      split <;> simp <;> omega
theorem named_len (l : List Nat) (hl : l.length ≤ 64) : ∀ m, m < 2 ^ l.length → (named l m).length = pc m 64 := by
  intro m
  induction m using Nat.strongRecOn with
  | ind m ih =>
    intro hm
    have hm64 : m < 2 ^ 64 := Nat.lt_of_lt_of_le hm (Nat.pow_le_pow_right (by omega) hl)
    by_cases h : m = 0
    · subst h; rw [named_0]
      have : ∀ k, pc 0 k = 0 := fun k => by induction k with
        | zero => rfl
        | succ k ih => simp [pc, ih]
      rw [this]; rfl
    · rw [named_s l h]
      have h1 := Nat.and_le_right (n := m) (m := m - 1)
      have h2 := ih (m &&& (m - 1)) (by omega) (by omega)
      obtain ⟨b1, b2⟩ := tz_bits 64 m (by omega) hm64
      have h3 := pc_clear b2 b1 64
      rw [if_pos (low_neg 64 m (by omega) hm64).2] at h3
      have h4 : tz 64 m < l.length := Classical.byContradiction fun hn => by
        rw [Nat.testBit_lt_two_pow (Nat.lt_of_lt_of_le hm (Nat.pow_le_pow_right (by omega) (by omega)))] at b1
        cases b1
      rw [List.length_append, if_pos h4, List.length_singleton]
      omega
theorem pc_stable {m k : Nat} (h : m < 2 ^ k) : ∀ j, pc m (k + j) = pc m k
  | 0 => rfl
  | j + 1 => by
    have := pc_stable h j
    rw [← Nat.add_assoc]
    simp only [pc]
    rw [this, Nat.testBit_lt_two_pow (Nat.lt_of_lt_of_le h (Nat.pow_le_pow_right (by omega) (by omega)))]
    simp
end St
end Lf
end Go.Proofs.Ytnmjpbcbldenmaa

/- Seats: slices.Equal of numbers. -/
namespace Go.Proofs.Ytnmjpbcbldenmaa
open Go.RowKit Rg
set_option linter.unusedVariables false
set_option maxRecDepth 100000
namespace Lf
namespace St
theorem list_ext {a b : List Nat} (hl : a.length = b.length) (h : ∀ j, j < a.length → a.getD j default = b.getD j default) : a = b := by
  apply List.ext_getElem hl
  intro i h1 h2
  have := h i h1
  rw [List.getD_eq_getElem?_getD, List.getD_eq_getElem?_getD, List.getElem?_eq_getElem h1, List.getElem?_eq_getElem h2] at this
  exact this
theorem EqualU (a b : List Nat) (hn : a.length < 4611686018427387904) (hb : b.length < 4611686018427387904) :
    (a = b → LF Try.prog 25 [.s none (a.map uK), .s none (b.map uK)] (fun _ => .k (.bool true)) none) ∧
    (a ≠ b → LF Try.prog 25 [.s none (a.map uK), .s none (b.map uK)] (fun _ => .k (.bool false)) none) := by
  constructor
  · rintro rfl
    refine LFx.mk' tt Try.func25 rfl rfl rfl (by kernel_rfl) rfl rfl fun F => ?_
    refine wk ?_ trueW trueW
    refine LC.loopN (fun i => [(0, .s none (a.map uK)), (1, .s none (a.map uK)), (12, .k (.int .i64 ((a.length : Nat) : Int))), (13, .k (.int .i64 ((i : Nat) : Int)))]) (fun i => []) (fun i => i ≤ a.length) ((a.length - ·)) (0) (by omega) ⟨rfl, rfl, rfl, rfl, trivial⟩ trivial rfl rfW rfW ?_
    intro i hi
    by_cases h : i < a.length
    · have hok : i + 1 ≤ a.length := h
      exact wk trueW trueW trueW
    · exact wk trueW trueW trueW
  · intro hne
    by_cases hl : a.length = b.length
    · refine LFx.mk' tt Try.func25 rfl rfl rfl (by kernel_rfl) rfl rfl fun F => ?_
      refine wk ?_ trueW trueW
      refine LC.loopN (fun i => [(0, .s none (a.map uK)), (1, .s none (b.map uK)), (12, .k (.int .i64 ((a.length : Nat) : Int))), (13, .k (.int .i64 ((i : Nat) : Int)))]) (fun i => []) (fun i => i ≤ a.length ∧ (∀ j, j < i → a.getD j default = b.getD j default)) ((a.length - ·)) (0) ⟨by omega, fun j h => by omega⟩ ⟨rfl, rfl, rfl, rfl, trivial⟩ trivial rfl rfW rfW ?_
      rintro i ⟨hi, hj⟩
      by_cases h : i < a.length
      · by_cases he : a.getD i default = b.getD i default
        · have hok : i + 1 ≤ a.length ∧ (∀ j, j < i + 1 → a.getD j default = b.getD j default) := ⟨h, fun j q => by
            by_cases e : j = i
            · rw [e]; exact he
            · exact hj j (by omega)⟩
          exact wk trueW trueW trueW
        · exact wk trueW trueW trueW
      · exact absurd (list_ext hl fun j q => hj j (by omega)) hne
    · refine LFx.mk' tt Try.func25 rfl rfl rfl (by kernel_rfl) rfl rfl fun F => ?_
      exact wk trueW trueW trueW
end St
end Lf
end Go.Proofs.Ytnmjpbcbldenmaa

/- Seats: votes as keys of a map. -/
namespace Go.Proofs.Ytnmjpbcbldenmaa
open Go.RowKit Rg
set_option maxRecDepth 100000
namespace Lf
namespace St
abbrev VoteT := Nat × List UInt8
/-- A vote's cells, and its value. -/
def voteC (p : VoteT) : List V := uK p.1 :: p.2.map bK
def voteV (p : VoteT) : V := .a (voteC p)
def voteL (p : VoteT) : List Value := Value.int .u64 (p.1 : Int) :: p.2.map fun b => Value.int .u8 (b.toNat : Int)
def voteK (p : VoteT) : Value := .agg (voteL p).toArray
structure VoteOk (p : VoteT) : Prop where
  s : p.1 < 18446744073709551616
  h : p.2.length = 32
theorem voteC_k (p : VoteT) : voteC p = (voteL p).map .k := by
  unfold voteC voteL
  rw [List.map_cons, List.map_map]
  rfl
theorem vote_rep {w : World} {g : Gh} {p : VoteT} {v : Value} (h : Rep w g (voteV p) v) : v = voteK p := by
  unfold voteV at h
  rw [voteC_k] at h
  exact rep_plain h
theorem voteK_inj {p q : VoteT} (h : voteK p = voteK q) : p = q := by
  unfold voteK voteL at h
  have h1 := congrArg Array.toList (Value.agg.inj h)
  simp only [List.toList_toArray, List.cons.injEq, Value.int.injEq, true_and] at h1
  obtain ⟨h2, h3⟩ := h1
  refine Prod.ext (Int.ofNat.inj h2) ?_
  have hinj : ∀ (a b : List UInt8), a.map (fun b : UInt8 => Value.int .u8 (b.toNat : Int)) = b.map (fun b : UInt8 => Value.int .u8 (b.toNat : Int)) → a = b := by
    intro a
    induction a with
    | nil => intro b h; cases b with
      | nil => rfl
      | cons => simp at h
    | cons x r ih => intro b h; cases b with
      | nil => simp at h
      | cons y s =>
        simp only [List.map_cons, List.cons.injEq, Value.int.injEq, true_and] at h
        have e1 : x = y := UInt8.toNat_inj.1 (Int.ofNat.inj h.1)
        rw [e1, ih s h.2]
  exact hinj _ _ h3
theorem laidV : laidOutB Try.prog = true := by kernel_rfl
theorem wideV : (match Try.prog.underlying 79 with | some (.array _ _) | some (.struct _) => true | _ => false) = true := by kernel_rfl
theorem lawV : Maps.Keyed Try.prog 79 := Maps.Keyed.of_law (deep_law_laid laidV (m := 3) (by omega) (of_decide_eq_true (by kernel_rfl)) (by kernel_rfl) wideV)
theorem mapTyV : MapTy Try.prog 166 79 (.int .i64 0) := ⟨⟨3, by kernel_rfl, fun w => by kernel_rfl⟩, lawV⟩
theorem mapM_some {α β : Type} {f : α → Option β} : ∀ {l : List α}, (∀ x ∈ l, ∃ y, f x = some y) → ∃ r, l.mapM f = some r
  | [], _ => ⟨[], rfl⟩
  | x :: r, h => by
    obtain ⟨y, hy⟩ := h x (by simp)
    obtain ⟨s, hs⟩ := mapM_some (l := r) fun z hz => h z (by simp [hz])
    exact ⟨y :: s, by simp [List.mapM_cons, hy, hs]⟩
theorem fsV_ex : ∃ fs : Array Field, Try.prog.underlying 79 = some (.struct fs) ∧ fs.toList.map (fun f => (f.type, f.offset)) = [(33, 0), (51, 1)] ∧ fs.all (·.name != "_") = true :=
  ⟨(match Try.prog.underlying 79 with | some (.struct fs) => fs | _ => #[]), by kernel_rfl, by kernel_rfl, by kernel_rfl⟩
theorem u_u64 : Try.prog.underlying 33 = some (.int .u64) := by kernel_rfl
theorem u_u8 : Try.prog.underlying 5 = some (.int .u8) := by kernel_rfl
theorem u_hash : Try.prog.underlying 51 = some (.array 32 5) := by kernel_rfl
theorem c_u64 : Try.prog.cellsOf 33 = 1 := by kernel_rfl
theorem c_u8 : Try.prog.cellsOf 5 = 1 := by kernel_rfl
theorem c_hash : Try.prog.cellsOf 51 = 32 := by kernel_rfl
theorem c_vote : Try.prog.cellsOf 79 = 33 := by kernel_rfl
theorem key_vote : Try.prog.keyType 79 = true := by kernel_rfl
theorem size_ge : ∃ n, Try.prog.types.size + 1 = n + 1 + 1 + 1 := by
  have h : Nat.ble 3 Try.prog.types.size = true := by kernel_rfl
  have := Nat.le_of_ble_eq_true h
  exact ⟨Try.prog.types.size - 2, by omega⟩
theorem kl_struct {P : Program} {d t : Nat} {fs : Array Field} {cs : List Value} (h : P.underlying t = some (.struct fs)) : P.keyLits (d + 1) t cs = if cs.length = P.cellsOf t ∧ fs.all (·.name != "_") = true then (fs.toList.mapM fun f => P.keyLits d f.type ((cs.drop f.offset).take (P.cellsOf f.type))).map List.flatten else none := by
  simp only [Program.keyLits, h]
theorem kl_array {P : Program} {d t n e : Nat} {cs : List Value} (h : P.underlying t = some (.array n e)) : P.keyLits (d + 1) t cs = if cs.length = P.cellsOf t then ((List.range n).mapM fun i => P.keyLits d e ((cs.drop (i * P.cellsOf e)).take (P.cellsOf e))).map List.flatten else none := by
  simp only [Program.keyLits, h]
theorem lits_u8 (d : Nat) (b : UInt8) : Try.prog.keyLits (d + 1) 5 [.int .u8 (b.toNat : Int)] = some [.int .u8 (b.toNat : Int)] := by
  have := b.toNat_lt
  simp only [Program.keyLits, u_u8]
  rw [if_pos]
  simp [Lit.wf, IntKind.min, IntKind.max, IntKind.bits, IntKind.signed]
  omega
theorem lits_u64 (d s : Nat) (h : s < 18446744073709551616) : Try.prog.keyLits (d + 1) 33 [.int .u64 (s : Int)] = some [.int .u64 (s : Int)] := by
  simp only [Program.keyLits, u_u64]
  rw [if_pos]
  simp [Lit.wf, IntKind.min, IntKind.max, IntKind.bits, IntKind.signed]
  omega
theorem lits_hash (d : Nat) (l : List UInt8) (h : l.length = 32) : ∃ r, Try.prog.keyLits (d + 1 + 1) 51 (l.map fun b => Value.int .u8 (b.toNat : Int)) = some r := by
  rw [kl_array u_hash, if_pos (by rw [c_hash, List.length_map, h])]
  obtain ⟨r, hr⟩ := mapM_some (l := List.range 32) (f := fun i => Try.prog.keyLits (d + 1) 5 (((l.map fun b => Value.int .u8 (b.toNat : Int)).drop (i * Try.prog.cellsOf 5)).take (Try.prog.cellsOf 5))) fun i hi => by
    have hi' : i < l.length := by rw [h]; exact List.mem_range.1 hi
    refine ⟨[.int .u8 ((l[i]).toNat : Int)], ?_⟩
    have e : ((l.map fun b => Value.int .u8 (b.toNat : Int)).drop i).take 1 = [Value.int .u8 ((l[i]).toNat : Int)] := by
      rw [← List.map_drop, ← List.map_take, List.drop_eq_getElem_cons hi']
      rfl
    rw [c_u8, Nat.mul_one, e]
    exact lits_u8 d _
  exact ⟨_, by rw [hr]; rfl⟩
theorem lits_vote (d : Nat) (p : VoteT) (h : VoteOk p) : ∃ r, Try.prog.keyLits (d + 1 + 1 + 1) 79 (voteL p) = some r := by
  obtain ⟨fsV, fsV_at, fsV_map, fsV_all⟩ := fsV_ex
  rw [kl_struct fsV_at, if_pos ⟨by rw [c_vote]; simp [voteL, h.h], by exact fsV_all⟩]
  obtain ⟨r, hr⟩ := mapM_some (l := fsV.toList) (f := fun f => Try.prog.keyLits (d + 1 + 1) f.type (((voteL p).drop f.offset).take (Try.prog.cellsOf f.type))) fun f hf => by
    have h1 : (f.type, f.offset) ∈ [(33, 0), (51, 1)] := by rw [← fsV_map]; exact List.mem_map_of_mem hf
    simp only [List.mem_cons, Prod.mk.injEq, List.not_mem_nil, or_false] at h1
    rcases h1 with ⟨e1, e2⟩ | ⟨e1, e2⟩
    · rw [e1, e2, c_u64]
      exact ⟨_, lits_u64 _ _ h.s⟩
    · rw [e1, e2, c_hash]
      have e : ((voteL p).drop 1).take 32 = p.2.map fun b => Value.int .u8 (b.toNat : Int) := by
        unfold voteL
        rw [List.drop_succ_cons, List.drop_zero, List.take_of_length_le (by simp [h.h])]
      rw [e]
      exact lits_hash d _ h.h
  exact ⟨_, by rw [hr]; rfl⟩
theorem key_voteK (p : VoteT) (h : VoteOk p) : ∃ l, keyOf Try.prog 79 (voteK p) = some l := by
  obtain ⟨fsV, fsV_at, _, _⟩ := fsV_ex
  obtain ⟨n, hn⟩ := size_ge
  obtain ⟨r, hr⟩ := lits_vote n p h
  have hc : (voteK p).cells.toList = voteL p := by simp [voteK, Value.cells]
  have hf : (voteK p).formed Try.prog 79 = true := by
    simp [voteK, Value.formed, fsV_at, c_vote, voteL, h.h]
  unfold keyOf
  rw [fsV_at]
  simp only
  rw [if_pos (by rw [key_vote, hf]; rfl), hn, hc, hr]
  exact ⟨_, rfl⟩
theorem keyV (p : VoteT) (h : VoteOk p) : KeyV Try.prog 79 (voteV p) (voteK p) := ⟨key_voteK p h, fun _ _ _ hr => vote_rep hr⟩
end St
end Lf
end Go.Proofs.Ytnmjpbcbldenmaa

/- Seats: book. -/
namespace Go.Proofs.Ytnmjpbcbldenmaa
open Go.RowKit Rg
set_option linter.unusedVariables false
set_option maxRecDepth 100000
namespace Lf
namespace St
/-- One vote more. -/
def bump : List (VoteT × Nat) → VoteT → List (VoteT × Nat)
  | [], v => [(v, 1)]
  | (u, n) :: r, v => if u = v then (u, n + 1) :: r else (u, n) :: bump r v
def mE (E : List (VoteT × Nat)) : List (Value × V) := E.map fun p => (voteK p.1, .k (.int .i64 ((p.2 : Nat) : Int)))
theorem bump_new : ∀ {E : List (VoteT × Nat)} {v : VoteT}, (∀ p ∈ E, p.1 ≠ v) → bump E v = E ++ [(v, 1)]
  | [], _, _ => rfl
  | (u, n) :: r, v, h => by
    rw [bump, if_neg (h (u, n) (by simp)), bump_new fun p hp => h p (by simp [hp])]
    rfl
theorem bump_old : ∀ {E : List (VoteT × Nat)} {v : VoteT} {n s : Nat}, E[s]? = some (v, n) → (E.Pairwise fun p q => p.1 ≠ q.1) → bump E v = E.set s (v, n + 1)
  | [], _, _, _, h, _ => by simp at h
  | (u, m) :: r, v, n, s, h, hd => by
    cases s with
    | zero =>
      simp at h
      obtain ⟨rfl, rfl⟩ := h
      rw [bump, if_pos rfl]; rfl
    | succ s =>
      simp at h
      have h1 := List.pairwise_cons.1 hd
      have hne : u ≠ v := h1.1 (v, n) (List.mem_of_getElem? h)
      rw [bump, if_neg hne, bump_old h h1.2]
      rfl
/-- What a book of votes is like. -/
structure Book (votes : List VoteT) (E : List (VoteT × Nat)) : Prop where
  nd : E.Pairwise fun p q => p.1 ≠ q.1
  le : ∀ p ∈ E, 0 < p.2 ∧ p.2 ≤ votes.length
  mem : ∀ v, (∃ p ∈ E, p.1 = v) ↔ v ∈ votes
theorem Book.nil : Book [] [] := ⟨.nil, by simp, by simp⟩
theorem Book.bump {votes : List VoteT} {E : List (VoteT × Nat)} (h : Book votes E) (v : VoteT) : Book (votes ++ [v]) (bump E v) := by
  by_cases hv : ∃ p ∈ E, p.1 = v
  · obtain ⟨⟨u, n⟩, hp, rfl⟩ := hv
    obtain ⟨s, hs⟩ := List.mem_iff_getElem?.1 hp
    rw [bump_old hs h.nd]
    have hlt := (List.getElem?_eq_some_iff.1 hs).1
    have hkeys : (E.set s (u, n + 1)).map (·.1) = E.map (·.1) := by
      rw [List.map_set]
      apply List.ext_getElem?
      intro j
      rw [List.getElem?_set]
      split
      · rename_i e
        subst e
        rw [List.getElem?_map, hs]
        simp [hlt]
      · rfl
    refine ⟨?_, fun p hp' => ?_, fun v => ?_⟩
    · have := h.nd
      have e : ∀ l : List (VoteT × Nat), (l.Pairwise fun p q => p.1 ≠ q.1) ↔ (l.map (·.1)).Pairwise (· ≠ ·) := fun l => by rw [List.pairwise_map]
      rw [e, hkeys, ← e]
      exact this
    · rw [List.length_append]
      rcases List.mem_or_eq_of_mem_set hp' with h1 | h1
      · have := h.le p h1; simp; omega
      · have := h.le (u, n) hp
        subst h1
        simp at this ⊢
        omega
    · rw [List.mem_append, ← h.mem v]
      have e : ∀ l : List (VoteT × Nat), (∃ p ∈ l, p.1 = v) ↔ v ∈ l.map (·.1) := fun l => by simp
      rw [e, hkeys, ← e]
      constructor
      · exact .inl
      · rintro (h1 | h1)
        · exact h1
        · rw [List.mem_singleton] at h1
          exact ⟨(u, n), hp, h1.symm⟩
  · have hno : ∀ p ∈ E, p.1 ≠ v := fun p hp e => hv ⟨p, hp, e⟩
    rw [bump_new hno]
    refine ⟨List.pairwise_append.2 ⟨h.nd, by simp, fun a ha b hb => ?_⟩, fun p hp => ?_, fun u => ?_⟩
    · rw [List.mem_singleton] at hb
      subst hb
      exact hno a ha
    · rw [List.length_append]
      rcases List.mem_append.1 hp with h1 | h1
      · have := h.le p h1; simp; omega
      · rw [List.mem_singleton] at h1
        subst h1
        simp
    · rw [List.mem_append, ← h.mem u]
      simp only [List.mem_append, List.mem_singleton]
      constructor
      · rintro ⟨p, h1 | h1, h2⟩
        · exact .inl ⟨p, h1, h2⟩
        · subst h1; exact .inr h2.symm
      · rintro (⟨p, h1, h2⟩ | h1)
        · exact ⟨p, .inl h1, h2⟩
        · exact ⟨(v, 1), .inr rfl, h1.symm⟩
def bookE (votes : List VoteT) : List (VoteT × Nat) := votes.foldl bump []
theorem book_take (votes : List VoteT) : ∀ i, i ≤ votes.length → Book (votes.take i) (bookE (votes.take i))
  | 0, _ => Book.nil
  | i + 1, h => by
    have hlt : i < votes.length := h
    rw [List.take_succ_eq_append_getElem hlt]
    have := (book_take votes i (by omega)).bump votes[i]
    unfold bookE at *
    rw [List.foldl_append]
    exact this
theorem book_all (votes : List VoteT) : Book votes (bookE votes) := by
  have := book_take votes votes.length (Nat.le_refl _)
  rwa [List.take_length] at this
/-- What the map tells, of any vote. -/
theorem get_no {E : List (VoteT × Nat)} {v : VoteT} {y0 : V} (h : ∀ p ∈ E, p.1 ≠ v) : MGet (mE E) (voteK v) y0 y0 := ⟨fun _ => rfl, fun p hp e => by
  obtain ⟨q, hq, rfl⟩ := List.mem_map.1 hp
  exact absurd (voteK_inj e) (h q hq)⟩
theorem get_yes {E : List (VoteT × Nat)} (hn : E.Pairwise fun p q => p.1 ≠ q.1) {v : VoteT} {n : Nat} {y0 : V} (h : (v, n) ∈ E) : MGet (mE E) (voteK v) y0 (.k (.int .i64 ((n : Nat) : Int))) := ⟨fun h1 => absurd rfl (h1 (voteK v, .k (.int .i64 ((n : Nat) : Int))) (List.mem_map.2 ⟨(v, n), h, rfl⟩)), fun p hp e => by
  obtain ⟨⟨u, m⟩, hq, rfl⟩ := List.mem_map.1 hp
  obtain rfl : u = v := voteK_inj e
  obtain ⟨i, hi⟩ := List.mem_iff_getElem?.1 h
  obtain ⟨j, hj⟩ := List.mem_iff_getElem?.1 hq
  by_cases hij : i = j
  · subst hij; rw [hi] at hj; cases hj; rfl
  · exfalso
    have h1 := (List.getElem?_eq_some_iff.1 hi)
    have h2 := (List.getElem?_eq_some_iff.1 hj)
    obtain ⟨l1, e1⟩ := h1
    obtain ⟨l2, e2⟩ := h2
    rcases Nat.lt_or_gt_of_ne hij with hlt | hlt
    · have := (List.pairwise_iff_getElem.1 hn) i j l1 l2 hlt
      rw [e1, e2] at this; exact this rfl
    · have := (List.pairwise_iff_getElem.1 hn) j i l2 l1 hlt
      rw [e1, e2] at this; exact this rfl⟩
theorem at_yes {E : List (VoteT × Nat)} (hn : E.Pairwise fun p q => p.1 ≠ q.1) {v : VoteT} {n s : Nat} (h : E[s]? = some (v, n)) : MAt (mE E) s (voteK v) (.k (.int .i64 ((n : Nat) : Int))) := ⟨by unfold mE; rw [List.getElem?_map, h]; rfl, fun j p hj e => by
  unfold mE at hj
  rw [List.getElem?_map] at hj
  obtain ⟨⟨u, m⟩, hq, rfl⟩ := Option.map_eq_some_iff.1 hj
  obtain rfl : u = v := voteK_inj e
  obtain ⟨l1, e1⟩ := List.getElem?_eq_some_iff.1 h
  obtain ⟨l2, e2⟩ := List.getElem?_eq_some_iff.1 hq
  apply Classical.byContradiction
  intro hne
  rcases Nat.lt_or_gt_of_ne hne with hlt | hlt
  · have := (List.pairwise_iff_getElem.1 hn) j s l2 l1 hlt
    rw [e1, e2] at this; exact this rfl
  · have := (List.pairwise_iff_getElem.1 hn) s j l1 l2 hlt
    rw [e1, e2] at this; exact this rfl⟩
theorem keys_mE {E : List (VoteT × Nat)} (h : ∀ p ∈ E, VoteOk p.1) : KeysV Try.prog 79 (mE E) := ⟨fun p hp => by
  obtain ⟨q, hq, rfl⟩ := List.mem_map.1 hp
  exact key_voteK _ (h q hq)⟩
theorem mE_snoc (E : List (VoteT × Nat)) (v : VoteT) (n : Nat) : mE E ++ [(voteK v, .k (.int .i64 ((n : Nat) : Int)))] = mE (E ++ [(v, n)]) := by
  unfold mE; rw [List.map_append]; rfl
theorem mE_len (E : List (VoteT × Nat)) : (mE E).length = E.length := List.length_map _
theorem mE_set (E : List (VoteT × Nat)) (s : Nat) (v : VoteT) (n : Nat) : (mE E).set s (voteK v, .k (.int .i64 ((n : Nat) : Int))) = mE (E.set s (v, n)) := by
  unfold mE; rw [List.map_set]
theorem voteC_len {v : VoteT} (h : VoteOk v) : (voteC v).length = 33 := by simp [voteC, h.h]
theorem book (votes : List VoteT) (hv : ∀ v ∈ votes, VoteOk v) (hn : votes.length < 4611686018427387904) (k : Nat) : LM Try.prog 103 [.s none (votes.map voteV)] [] fun o m => o = .ret (.mp k) ∧ m = [(k, .m (mE (bookE votes)))] := by
  have hM := mapTyV
  have hd2 : TwoIn 5 [0, 1] 2 4 [3, 4, 5, 6] [5, 2, 3, 6] := ⟨⟩
  refine LM.map1 (k0 := 6) (fun _ => rfl) ?_ k
  refine LFx.mk' tt Try.func103 rfl rfl rfl (by kernel_rfl) rfl rfl fun F => ?_
  refine wk ?_ trueW trueW
  refine LC.loop2 (fun i S => [(3, .mp 6), (7, .s none (votes.map voteV)), (8, .k (.int .i64 ((votes.length : Nat) : Int))), (9, .k (.int .i64 ((i : Nat) : Int)))]) (fun i S => [(6, .m (mE S))]) (fun i S => i ≤ votes.length ∧ S = bookE (votes.take i)) ((votes.length - ·)) (0) ([]) ⟨by omega, rfl⟩ ⟨rfl, rfl, rfl, rfl, trivial⟩ ⟨rfl, trivial⟩ rfl rfW rfW ?_
  rintro i S ⟨hi, hS⟩
  by_cases h : i < votes.length
  · have hok : i + 1 ≤ votes.length ∧ bump S (votes.getD i default) = bookE (votes.take (i + 1)) := ⟨h, by
      rw [hS, List.take_succ_eq_append_getElem h]
      unfold bookE
      rw [List.foldl_append, List.getD_eq_getElem?_getD, List.getElem?_eq_getElem h]
      rfl⟩
    have hvm : votes.getD i default ∈ votes := by
      rw [List.getD_eq_getElem?_getD, List.getElem?_eq_getElem h]; exact List.getElem_mem h
    have hB := book_take votes i hi
    rw [← hS] at hB
    have hgl := voteC_len (hv _ hvm)
    have hgle : 0 + (voteC (votes.getD i default)).length ≤ 33 := by omega
    have hkey := keyV _ (hv _ hvm)
    have hSk : ∀ p ∈ S, VoteOk p.1 := fun p hp => hv _ (List.mem_of_mem_take ((hB.mem p.1).1 ⟨p, hp, rfl⟩))
    have hks := keys_mE hSk
    have hvok := hv _ hvm
    have hle := hB.le
    have hnd := hB.nd
    have hlen : (votes.take i).length = i := by rw [List.length_take]; omega
    rw [hlen] at hle
    clear hS hB
    by_cases hin : ∃ p ∈ S, p.1 = votes.getD i default
    · obtain ⟨⟨u, n⟩, hp, hu⟩ := hin
      have hu' : u = votes.getD i default := hu
      subst hu'
      have hnn : n < 4611686018427387904 := by have := hle _ hp; simp at this; omega
      obtain ⟨s, hs⟩ := List.mem_iff_getElem?.1 hp
      have hget := get_yes (y0 := .k (.int .i64 0)) hnd hp
      have hat := at_yes hnd hs
      have hset : MSet (mE S) s (.k (.int .i64 ((n + 1 : Nat) : Int))) (mE (bump S (votes.getD i default))) := ⟨voteK (votes.getD i default), _, hat.at_, by rw [bump_old hs hnd, mE_set]⟩
      exact wk trueW trueW trueW
    · have hno : ∀ p ∈ S, p.1 ≠ votes.getD i default := fun p hp e => hin ⟨p, hp, e⟩
      have hget := get_no (y0 := .k (.int .i64 0)) hno
      have hno' : MNo (mE S) (voteK (votes.getD i default)) := ⟨fun p hp e => by
        obtain ⟨q, hq, rfl⟩ := List.mem_map.1 hp
        exact hno q hq (voteK_inj e)⟩
      have hks' : KeysV Try.prog 79 (mE S ++ [(voteK (votes.getD i default), .k (.int .i64 0))]) := ⟨fun p hp => by
        rcases List.mem_append.1 hp with hp | hp
        · exact hks.all p hp
        · rw [List.mem_singleton] at hp
          subst hp
          exact hkey.k⟩
      have hget' : MGet (mE S ++ [(voteK (votes.getD i default), .k (.int .i64 0))]) (voteK (votes.getD i default)) (.k (.int .i64 0)) (.k (.int .i64 0)) := ⟨fun _ => rfl, fun p hp e => by
        rcases List.mem_append.1 hp with hp | hp
        · exact absurd e (hno'.no p hp)
        · rw [List.mem_singleton] at hp
          subst hp
          rfl⟩
      have hset : MSet (mE S ++ [(voteK (votes.getD i default), .k (.int .i64 0))]) S.length (.k (.int .i64 1)) (mE (bump S (votes.getD i default))) := ⟨voteK (votes.getD i default), .k (.int .i64 0), by rw [List.getElem?_append_right (by rw [mE_len]; exact Nat.le_refl _), mE_len]; simp, by
        rw [bump_new hno, ← mE_snoc, ← mE_len, List.set_append_right _ _ (Nat.le_refl _)]
        simp⟩
      exact wk trueW trueW trueW
  · have hS' : S = bookE votes := by rw [hS, List.take_of_length_le (by omega)]
    subst hS'
    exact wk trueW trueW trueW
end St
end Lf
end Go.Proofs.Ytnmjpbcbldenmaa

/- Seats: Tally and Voted. -/
namespace Go.Proofs.Ytnmjpbcbldenmaa
open Go.RowKit Rg
set_option linter.unusedVariables false
set_option maxRecDepth 100000
namespace Lf
namespace St
/-- The bits below k at which f holds. -/
def tal (f : Nat → Bool) : Nat → Nat
  | 0 => 0
  | k + 1 => if f k then tal f k ||| 2 ^ k else tal f k
theorem tal_lt (f : Nat → Bool) : ∀ k, tal f k < 2 ^ k
  | 0 => by simp [tal]
  | k + 1 => by
    have h := tal_lt f k
    have h2 : 2 ^ k < 2 ^ (k + 1) := Nat.pow_lt_pow_right (by omega) (by omega)
    rw [tal]
    split
    · exact Nat.or_lt_two_pow (by omega) h2
    · omega
theorem tal_bit (f : Nat → Bool) (i : Nat) : ∀ k, (tal f k).testBit i = (decide (i < k) && f i)
  | 0 => by simp [tal]
  | k + 1 => by
    have h := tal_bit f i k
    rw [tal]
    by_cases hik : i = k
    · subst hik
      have h3 : (tal f i).testBit i = false := Nat.testBit_lt_two_pow (tal_lt f i)
      cases hf : f i
      · simp [h3]
      · simp [Nat.testBit_or, Nat.testBit_two_pow_self]
    · have e : decide (i < k + 1) = decide (i < k) := decide_eq_decide.2 ⟨fun _ => by omega, fun _ => by omega⟩
      rw [e, ← h]
      split
      · rw [Nat.testBit_or, Nat.testBit_two_pow]
        have : decide (k = i) = false := decide_eq_false (fun e => hik e.symm)
        rw [this, Bool.or_false]
      · rfl
def talF (l : List Nat) (x : List UInt8) (votes : List VoteT) (i : Nat) : Bool := decide ((l.getD i default, x) ∈ votes)
def tally (l : List Nat) (x : List UInt8) (votes : List VoteT) : Nat := tal (talF l x votes) (min l.length 64)
theorem tally_lt (l : List Nat) (x : List UInt8) (votes : List VoteT) : tally l x votes < 18446744073709551616 := by
  have h := tal_lt (talF l x votes) (min l.length 64)
  have h2 : 2 ^ (min l.length 64) ≤ 2 ^ 64 := Nat.pow_le_pow_right (by omega) (by omega)
  unfold tally
  omega
theorem tally_bit (l : List Nat) (x : List UInt8) (votes : List VoteT) (i : Nat) : (tally l x votes).testBit i = (decide (i < l.length ∧ i < 64) && decide ((l.getD i default, x) ∈ votes)) := by
  unfold tally
  rw [tal_bit]
  congr 1
  exact decide_eq_decide.2 ⟨fun h => by omega, fun h => by omega⟩
theorem cv_voteC (p : VoteT) : V.cv.go (fun _ => false) true (voteC p) = voteC p := by
  unfold voteC
  rw [V.cv.go, cv_mapb]
  rfl
theorem vote_b (s : Nat) (h : List UInt8) (hl : h.length = 32) : ∃ cs, vfill (fun i => [(0, 1), (1, 32)][i]?) ((Z.int .u64 :: List.replicate 32 (Z.int .u8)).map Z.v) [(0, uK s), (1, .a (h.map bK))] = some cs ∧ V.cv.go (fun _ => false) true cs = voteC (s, h) := by
  refine ⟨voteC (s, h), ?_, cv_voteC _⟩
  have e1 : splice ((Z.int .u64 :: List.replicate 32 (Z.int .u8)).map Z.v) 0 [uK s] = uK s :: (List.replicate 32 (Z.int .u8)).map Z.v := rfl
  have e2 : splice (uK s :: (List.replicate 32 (Z.int .u8)).map Z.v) 1 (h.map bK) = voteC (s, h) := by
    simp [splice, voteC, hl]
  have e4 : (h.map bK).length = 32 := by rw [List.length_map, hl]
  have e5 : (V.a (h.map bK)).ok = true := rfl
  have e6 : (uK s).ok = true := rfl
  simp only [vfill, cells_uK, cells_a, List.getElem?_cons_zero, List.getElem?_cons_succ, e1, e2, e4, e5, e6]
  rfl
theorem Tally (l : List Nat) (x : List UInt8) (votes : List VoteT) (hl : ∀ s ∈ l, s < 18446744073709551616) (hn : l.length < 4611686018427387904) (hx : x.length = 32) (hv : ∀ v ∈ votes, VoteOk v) (hnv : votes.length < 4611686018427387904) :
    LF Try.prog 90 [.s none (l.map uK), .a (x.map bK), .s none (votes.map voteV)] (fun _ => uK (tally l x votes)) none := by
  have hM := mapTyV
  have c1 := book votes hv hnv
  have hB := book_all votes
  have hks := keys_mE (E := bookE votes) fun p hp => hv _ ((hB.mem p.1).1 ⟨p, hp, rfl⟩)
  have hnd := hB.nd
  have hle := hB.le
  have hmem := hB.mem
  clear hB
  unfold tally
  generalize hE : bookE votes = E at *
  refine LFx.mk' tt Try.func90 rfl rfl rfl (by kernel_rfl) rfl rfl fun F => ?_
  refine wk ?_ trueW trueW
  refine LC.loop2 (fun i S => [(4, .p 4 0), (7, .mp 12), (8, uK S), (13, .s none (l.map uK)), (14, .k (.int .i64 ((l.length : Nat) : Int))), (15, .k (.int .i64 ((i : Nat) : Int)))]) (fun i S => [(4, .b (x.map bK)), (12, .m (mE E))]) (fun i S => i ≤ l.length ∧ S = tal (talF l x votes) (min i 64)) ((l.length - ·)) (0) (0) ⟨by omega, rfl⟩ ⟨rfl, rfl, rfl, rfl, rfl, rfl, trivial⟩ ⟨rfl, rfl, trivial⟩ rfl rfW rfW ?_
  rintro i S ⟨hi, hS⟩
  by_cases h : i < l.length
  · by_cases h64 : i < 64
    · have hs : l.getD i default < 18446744073709551616 := getD_lt64 hl i
      have hkey := keyV (l.getD i default, x) ⟨hs, hx⟩
      obtain ⟨cs, hb1, hb2⟩ := vote_b (l.getD i default) x hx
      have e1 : min i 64 = i := by omega
      have e2 : min (i + 1) 64 = i + 1 := by omega
      have t1 := tal_lt (talF l x votes) i
      have t2 : 2 ^ i < 18446744073709551616 := Nat.lt_of_lt_of_le (Nat.pow_lt_pow_right (by omega) (show i < 64 by omega)) (by decide)
      rw [e1] at hS
      rw [← hS] at t1
      by_cases hin : (l.getD i default, x) ∈ votes
      · obtain ⟨⟨u, n⟩, hp, hu⟩ := (hmem _).2 hin
        have hu' : u = (l.getD i default, x) := hu
        subst hu'
        have hn1 := hle _ hp
        have hn2 : 0 < n := hn1.1
        have hn3 : n ≤ votes.length := hn1.2
        have hget := get_yes (y0 := .k (.int .i64 0)) hnd hp
        have hok : i + 1 ≤ l.length ∧ S ||| 2 ^ i = tal (talF l x votes) (min (i + 1) 64) := ⟨h, by rw [e2, tal, if_pos (show talF l x votes i = true from decide_eq_true hin), hS]⟩
        have hw : IntKind.u64.wrap (1 * 2 ^ (min ((i : Nat) : Int).toNat IntKind.u64.bits)) = ((2 ^ i : Nat) : Int) := by
          have := shl_u64 (a := 1) (s := i) (by omega)
          rw [Nat.one_mul, Nat.mod_eq_of_lt t2] at this
          exact this
        generalize 2 ^ i = z at *
        clear hle hmem hn1 hS
        exact wk trueW trueW trueW
      · have hget := get_no (E := E) (v := (l.getD i default, x)) (y0 := .k (.int .i64 0)) fun p hp e => hin ((hmem _).1 ⟨p, hp, e⟩)
        have hok : i + 1 ≤ l.length ∧ S = tal (talF l x votes) (min (i + 1) 64) := ⟨h, by rw [e2, tal, if_neg (by unfold talF; simpa using hin), hS]⟩
        generalize 2 ^ i = z at *
        clear hle hmem hS
        exact wk trueW trueW trueW
    · have hok : i + 1 ≤ l.length ∧ S = tal (talF l x votes) (min (i + 1) 64) := ⟨h, by rw [hS]; congr 1; omega⟩
      clear hle hmem hS
      exact wk trueW trueW trueW
  · have e : i = l.length := by omega
    subst e
    rw [← hS]
    clear hle hmem hS
    exact wk trueW trueW trueW
def andn0 (a b : Nat) : Bool := decide (andn a b = 0)
theorem Voted (l : List Nat) (M : Nat) (x : List UInt8) (votes : List VoteT) (hM : M < 18446744073709551616) (hl : ∀ s ∈ l, s < 18446744073709551616) (hn : l.length < 4611686018427387904) (hx : x.length = 32) (hv : ∀ v ∈ votes, VoteOk v) (hnv : votes.length < 4611686018427387904) :
    LF Try.prog 58 [.s none (l.map uK), uK M, .a (x.map bK), .s none (votes.map voteV)] (fun _ => .k (.bool (decide (andn M (tally l x votes) = 0)))) none := by
  have c1 := Tally l x votes hl hn hx hv hnv
  have h1 := tally_lt l x votes
  generalize tally l x votes = y at *
  have h2 := andn_le M y
  by_cases h : andn M y = 0
  · rw [decide_eq_true h]
    refine LFx.mk' tt Try.func58 rfl rfl rfl (by kernel_rfl) rfl rfl fun F => ?_
    exact wk trueW trueW trueW
  · rw [decide_eq_false h]
    refine LFx.mk' tt Try.func58 rfl rfl rfl (by kernel_rfl) rfl rfl fun F => ?_
    exact wk trueW trueW trueW
end St
end Lf
end Go.Proofs.Ytnmjpbcbldenmaa

/- Stores and updates of the light client; judge. -/
namespace Go.Proofs.Ytnmjpbcbldenmaa
open Go.RowKit Rg Wm Ar
set_option linter.unusedVariables false
set_option maxRecDepth 100000
namespace Lf
open Pk
abbrev sV (l : List Nat) : V := .s none (l.map uK)
/-- A header and two cells. -/
def hx (h : Hdr) (a b : V) : List V := hdrC h ++ [a, b]
theorem hx_eq (h : Hdr) (a b : V) : hx h a b = hdrC h ++ [a, b] := rfl
theorem hx_len {h : Hdr} (k : h.ok) (a b : V) : (hx h a b).length = 206 := by rw [hx_eq, List.length_append, hdrC_len k]; rfl
theorem hx_drop {h : Hdr} (k : h.ok) (a b : V) {n : Nat} (hn : n ≤ 204) : (hx h a b).drop n = (hdrC h).drop n ++ [a, b] := by
  rw [hx_eq, List.drop_append, hdrC_len k, Nat.sub_eq_zero_of_le hn, List.drop_zero]
theorem hx_a {ti : TI} {h : Hdr} {a b : V} (k : h.ok) (hd : ti.d.agg = false) : ti.part (hx h a b) 204 = some a := part_num hd (by
  rw [hx_drop k _ _ (Nat.le_refl _), List.drop_of_length_le (by rw [hdrC_len k]; exact Nat.le_refl _)]; rfl)
theorem hx_b {ti : TI} {h : Hdr} {a b : V} (k : h.ok) (hd : ti.d.agg = false) : ti.part (hx h a b) 205 = some b := part_num (r := []) hd (by
  rw [hx_eq]; have := drop_at (hdrC_len k) (b := [a, b]) 1; exact this)
theorem hx_n {ti : TI} {h : Hdr} {a b : V} (k : h.ok) (hd : ti.d.agg = false) : ti.part (hx h a b) 32 = some (uK h.number) := part_num hd (by
  rw [hx_drop k _ _ (by omega), hd32 k 0]; rfl)
theorem hx_h {ti : TI} {h : Hdr} {a b : V} (k : h.ok) (hd : ti.d.agg = true) (hs : ti.size = 204) : ti.part (hx h a b) 0 = some (.a (hdrC h)) := by
  have hl := hdrC_len k
  have e : (hx h a b).take 204 = hdrC h := by rw [hx_eq, List.take_append_of_le_length (by omega), List.take_of_length_le (by omega)]
  have h3 : ((hx h a b).take 204).length = 204 := by rw [e, hl]
  unfold TI.part
  rw [hd, hs]
  simp only [List.drop_zero, cond_true, e, hx_len k]
  rfl
theorem hx_x {ti : TI} {h : Hdr} {a b : V} (k : h.ok) (hd : ti.d.agg = true) (hs : ti.size = 32) : ti.part (hx h a b) 172 = some (.a (h.next.map bK)) := by
  have hl := len_b _ k.next
  have e : ((hx h a b).drop 172).take 32 = h.next.map bK := by rw [hx_drop k _ _ (by omega), hd172 k, List.take_append_of_le_length (by omega), List.take_of_length_le (by omega)]
  have h3 : (((hx h a b).drop 172).take 32).length = 32 := by rw [e, hl]
  unfold TI.part
  rw [hd, hs]
  simp only [cond_true, e, hx_len k]
  rfl
theorem hx_set {h : Hdr} {a b c : V} {us : List V} (k : h.ok) (hu : us = [c]) : splice (hx h a b) 205 us = hx h a c := by
  subst hu
  have hl := hdrC_len k
  rw [hx_eq, hx_eq]
  unfold splice
  have e1 : (hdrC h ++ [a, b]).take 205 = hdrC h ++ [a] := by rw [show hdrC h ++ [a, b] = (hdrC h ++ [a]) ++ [b] from by simp, List.take_append_of_le_length (by simp; omega), List.take_of_length_le (by simp; omega)]
  rw [e1, List.drop_of_length_le (by simp; omega)]
  simp
theorem refs_app' (m : List (Nat × M)) : ∀ (a b : List V), V.refs.go m a = true → V.refs.go m b = true → V.refs.go m (a ++ b) = true
  | [], _, _, h => h
  | x :: r, b, h1, h2 => by
    rw [List.cons_append, V.refs.go]
    rw [V.refs.go, Bool.and_eq_true] at h1
    rw [h1.1, refs_app' m r b h1.2 h2]; rfl
theorem hx_refsS (m : List (Nat × M)) (h : Hdr) (a b : List Nat) : V.refs.go m (hx h (sV a) (sV b)) = true := refs_app' m _ _ (hdrC_refs m h) rfl
theorem hx_refsU (m : List (Nat × M)) (h : Hdr) (n : Nat) (b : List Nat) : V.refs.go m (hx h (uK n) (sV b)) = true := refs_app' m _ _ (hdrC_refs m h) rfl
theorem bare_app : ∀ (a b : List V), V.bare.go a = some a → V.bare.go b = some b → V.bare.go (a ++ b) = some (a ++ b)
  | [], _, _, h => h
  | x :: r, b, h1, h2 => by
    rw [V.bare.go] at h1
    rw [List.cons_append, V.bare.go]
    cases hx : x.bare with
    | none => rw [hx] at h1; simp at h1
    | some y =>
      cases hr : V.bare.go r with
      | none => rw [hx, hr] at h1; simp at h1
      | some r' =>
        rw [hx, hr] at h1
        simp only [Option.some.injEq, List.cons.injEq] at h1
        obtain ⟨rfl, rfl⟩ := h1
        rw [bare_app r' b hr h2]
theorem hx_bareU (h : Hdr) (n : Nat) (b : List Nat) : (V.a (hx h (uK n) (sV b))).bare = some (.a (hx h (uK n) (sV b))) := by
  rw [V.bare, hx_eq, bare_app _ _ (hdrC_bare h) rfl]; rfl
structure StM where
  hdr : Hdr
  seats : List Nat
  next : List Nat
  deriving Inhabited, DecidableEq
structure UpM where
  hdr : Hdr
  mask : Nat
  next : List Nat
  deriving Inhabited, DecidableEq
def seats64 (l : List Nat) : Prop := ∀ s ∈ l, s < 18446744073709551616
structure StM.ok (s : StM) : Prop where
  hdr : s.hdr.ok
  seats : seats64 s.seats
  next : seats64 s.next
  sl : s.seats.length < 2000000
  nl : s.next.length < 2000000
structure UpM.ok (u : UpM) : Prop where
  hdr : u.hdr.ok
  mask : u.mask < 18446744073709551616
  next : seats64 u.next
  nl : u.next.length < 2000000
abbrev storeC (s : StM) : List V := hx s.hdr (sV s.seats) (sV s.next)
abbrev updC (u : UpM) : List V := hx u.hdr (uK u.mask) (sV u.next)
def zeroH : Hdr := ⟨List.replicate 32 0, 0, 0, List.replicate 8 0, 0, 0, List.replicate 32 0, List.replicate 32 0, List.replicate 32 0, List.replicate 32 0, List.replicate 32 0⟩
def zeroS : StM := ⟨zeroH, [], []⟩
theorem zeroH_ok : zeroH.ok := ⟨rfl, by decide, by decide, rfl, by decide, by decide, rfl, rfl, rfl, rfl, rfl⟩
instance decAsc (l : List Nat) : Decidable (St.asc l) := decidable_of_iff (∀ j, j < l.length → 0 < j → l.getD (j - 1) default < l.getD j default) ⟨fun h j h1 h2 => h j h2 h1, fun h j h1 h2 => h j h2 h1⟩
/-- May they be seats? -/
def right (l : List Nat) : Bool := decide (St.asc l ∧ 0 < l.length ∧ l.length ≤ 16)
/-- Whose votes are asked for. -/
def judgeM (s : StM) (n : Nat) : List Nat × Nat :=
  if n ≤ s.hdr.number then ([], 24) else if s.hdr.number / 8 = n / 8 then (s.seats, 0) else if 1 < n / 8 - s.hdr.number / 8 ∨ s.next = [] then ([], 25) else (s.next, 0)
attribute [irreducible] hx
namespace Sr
theorem CloneU (l : List Nat) (hn : l.length < 1073741824) : LF Try.prog 59 [.s none (l.map uK)] (fun _ => .s none (l.map uK)) none := by
  have hl : (l.map uK).length = l.length := List.length_map _
  refine LFx.mk' tt Try.func59 rfl rfl rfl (by kernel_rfl) rfl rfl fun F => ?_
  refine LC.seq (LC.region (LS.pp rfl rfl (Does.assign rfl rfl) rfl (LS.nil ?_)))
  refine LC.seq (LC.seq (LC.region (LS.pp rfl rfl (Does.move rfl rfl) rfl (LS.eqNil tt rfl rfl rfl rfl rfl rfl rfl (fun he => LS.nil ?_) (LS.nil ?_)))))
  · have hl0 : l = [] := List.map_eq_nil_iff.1 he
    subst hl0
    exact wk trueW trueW trueW
  · refine LC.condF rfl ?_
    exact wk trueW trueW trueW
theorem none_ (l : List Nat) (hn : l.length < 1073741824) : LF Try.prog 55 [.s none (l.map uK)] (fun _ => .k (.bool (decide (l = [])))) none := by
  by_cases h : l = []
  · subst h
    refine LFx.mk' tt Try.func55 rfl rfl rfl (by kernel_rfl) rfl rfl fun F => ?_
    exact wk trueW trueW trueW
  · rw [decide_eq_false h]
    have h0 : l.length ≠ 0 := fun e => h (List.eq_nil_of_length_eq_zero e)
    refine LFx.mk' tt Try.func55 rfl rfl rfl (by kernel_rfl) rfl rfl fun F => ?_
    exact wk trueW trueW trueW
theorem Period (n : Nat) (h : n < 18446744073709551616) : LF Try.prog 23 [uK n] (fun _ => uK (n / 8)) none := by
  refine LFx.mk' tt Try.func23 rfl rfl rfl (by kernel_rfl) rfl rfl fun F => ?_
  exact wk trueW trueW trueW
theorem RightB (l : List Nat) (hl : seats64 l) (hn : l.length < 4611686018427387904) : LF Try.prog 54 [.s none (l.map uK)] (fun _ => .k (.bool (right l))) none := by
  have h := St.Right l hl hn
  unfold right
  by_cases hp : St.asc l ∧ 0 < l.length ∧ l.length ≤ 16
  · rw [decide_eq_true hp]; exact h.1 hp
  · rw [decide_eq_false hp]; exact h.2 hp
set_option maxHeartbeats 2000000 in
theorem judge (s : StM) (n : Nat) (k : s.ok) (hn : n < 18446744073709551616) : LF Try.prog 56 [.a (storeC s), uK n] (fun _ => .t [sV (judgeM s n).1, .k (.int .i64 (((judgeM s n).2 : Nat) : Int))]) none := by
  have kh := k.hdr
  have hnum := kh.number
  have c1 := Period s.hdr.number hnum
  have c2 := Period n hn
  have hnl := k.nl
  have c3 := none_ s.next (by omega)
  have ld1 := @hx_a
  have ld2 := @hx_b
  have ld3 := @hx_n
  have hls := hx_len kh (sV s.seats) (sV s.next)
  have hrf := hx_refsS
  obtain ⟨h, a, b⟩ := s
  simp only [storeC] at *
  have hd1 : h.number / 8 < 18446744073709551616 := by omega
  have hd2 : n / 8 < 18446744073709551616 := by omega
  unfold judgeM
  simp only
  by_cases g1 : n ≤ h.number
  · rw [if_pos g1]
    refine LFx.mk' tt Try.func56 rfl rfl rfl (by kernel_rfl) rfl rfl fun F => ?_
    exact wk trueW trueW trueW
  · rw [if_neg g1]
    by_cases g2 : h.number / 8 = n / 8
    · rw [if_pos g2]
      rw [g2] at c1
      refine LFx.mk' tt Try.func56 rfl rfl rfl (by kernel_rfl) rfl rfl fun F => ?_
      exact wk trueW trueW trueW
    · rw [if_neg g2]
      have g3 : h.number / 8 ≤ n / 8 := Nat.div_le_div_right (by omega)
      have hw : IntKind.u64.wrap (((n / 8 : Nat) : Int) - ((h.number / 8 : Nat) : Int)) = ((n / 8 - h.number / 8 : Nat) : Int) := by rw [wrap_u64 (by omega)]; omega
      by_cases g4 : 1 < n / 8 - h.number / 8
      · rw [if_pos (.inl g4)]
        generalize n / 8 = q at *
        generalize h.number / 8 = p at *
        refine LFx.mk' tt Try.func56 rfl rfl rfl (by kernel_rfl) rfl rfl fun F => ?_
        exact wk trueW trueW trueW
      · by_cases g5 : b = []
        · rw [if_pos (.inr g5)]
          rw [decide_eq_true g5] at c3
          generalize n / 8 = q at *
          generalize h.number / 8 = p at *
          refine LFx.mk' tt Try.func56 rfl rfl rfl (by kernel_rfl) rfl rfl fun F => ?_
          exact wk trueW trueW trueW
        · rw [if_neg (by rintro (h | h); exact g4 h; exact g5 h)]
          rw [decide_eq_false g5] at c3
          generalize n / 8 = q at *
          generalize h.number / 8 = p at *
          refine LFx.mk' tt Try.func56 rfl rfl rfl (by kernel_rfl) rfl rfl fun F => ?_
          exact wk trueW trueW trueW
end Sr
end Lf
end Go.Proofs.Ytnmjpbcbldenmaa
