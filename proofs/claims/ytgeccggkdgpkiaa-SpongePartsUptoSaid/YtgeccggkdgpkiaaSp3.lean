/- The sponge: read, write8, the hasher. -/
import Derived.Test.YtgeccggkdgpkiaaSp2
namespace Go.Proofs.Ytgeccggkdgpkiaa
open Go.RowKit Rg
namespace Lf
/-! ### What they come to -/
def readStep (l : List UInt8) (x : UInt64) (i : Nat) : UInt64 := x ||| UInt64.ofNat ((l.getD i default).toNat * 2 ^ (8 * i) % 2 ^ 64)
def readQ (l : List UInt8) : UInt64 := iter (readStep l) 0 8
def wr8 (x : UInt64) (off : Nat) (L : List UInt8) (i : Nat) : List UInt8 := L.set (off + i) (UInt8.ofNat (x.toNat / 2 ^ (8 * i)))
structure Hs where
  st : List UInt64
  pt : List UInt8
  n : Nat
structure Hs.ok (h : Hs) : Prop where
  st : h.st.length = 8
  pt : h.pt.length = 32
  n : h.n < 32
def Hs.cells (h : Hs) : List V := h.st.map qK ++ (h.pt.map bK ++ [.k (.int .i64 ((h.n : Nat) : Int))])
def xorIn (P : List UInt8) (S : List UInt64) (j : Nat) : List UInt64 := S.set j (S.getD j default ^^^ readQ ((P.drop (8 * j)).take (32 - 8 * j)))
def takeH (h : Hs) (x : UInt8) : Hs :=
  if h.n + 1 < 32 then ⟨h.st, h.pt.set h.n x, h.n + 1⟩ else ⟨mixQ (iter (xorIn (h.pt.set h.n x)) h.st 4), h.pt.set h.n x, 0⟩
theorem xorIn_len (P : List UInt8) (S : List UInt64) (j : Nat) : (xorIn P S j).length = S.length := by simp [xorIn]
theorem takeH_ok {h : Hs} (k : h.ok) (x : UInt8) : (takeH h x).ok := by
  unfold takeH
  split
  · exact ⟨k.st, by simp [k.pt], by assumption⟩
  · exact ⟨by rw [mixQ_len, iter_len (xorIn_len _)]; exact k.st, by simp [k.pt], Nat.zero_lt_succ _⟩
theorem readQ_eq (l : List UInt8) : readQ l = iter (readStep l) 0 8 := rfl
attribute [irreducible] readQ takeH
theorem refs_cells (m : Mem) (h : Hs) : V.refs.go m h.cells = true := by
  simp only [Hs.cells, refs_append, refs_mapq, refs_mapb]; rfl
namespace Sp
set_option maxHeartbeats 1000000 in
theorem read (l : List UInt8) (hl : 8 ≤ l.length) : LF Try.prog 55 [.s none (l.map bK)] (fun _ => qK (readQ l)) none := by
  refine LFx.mk' tt Try.func55 rfl rfl rfl (by kernel_rfl) rfl rfl fun F => ?_
  refine wk ?_ trueW trueW
  refine LC.loop2 (fun i x => [(0, .s none (l.map bK)), (3, qK x), (5, .k (.int .i64 ((i : Nat) : Int)))]) (fun i x => []) (fun i x => i ≤ 8 ∧ x = iter (readStep l) 0 i) ((8 - ·)) (0) (0) ⟨by omega, rfl⟩ ⟨rfl, rfl, rfl, trivial⟩ trivial rfl (by first | exact rfl | (simp only [V.cells, refsE, refsM, V.refs, V.refs.go, V.pure, V.pure.go, pure_mapq, pure_mapb, refs_mapq, refs_mapb, refs_append, Bool.and_true, Bool.true_and, Bool.and_self] <;> exact rfl) | (simp only [V.cells, refsE, refsM, V.refs, V.refs.go, V.pure, V.pure.go, pure_mapq, pure_mapb, refs_mapq, refs_mapb, refs_append, Bool.and_true, Bool.true_and, Bool.and_self, hrf] <;> exact rfl) | (simp only [V.cells, refsE, refsM, V.refs, V.refs.go, V.pure, V.pure.go, pure_mapq, pure_mapb, refs_mapq, refs_mapb, refs_append, Bool.and_true, Bool.true_and, Bool.and_self, hrf, hrg] <;> exact rfl) | exact lz) (by first | exact rfl | (simp only [V.cells, refsE, refsM, V.refs, V.refs.go, V.pure, V.pure.go, pure_mapq, pure_mapb, refs_mapq, refs_mapb, refs_append, Bool.and_true, Bool.true_and, Bool.and_self] <;> exact rfl) | (simp only [V.cells, refsE, refsM, V.refs, V.refs.go, V.pure, V.pure.go, pure_mapq, pure_mapb, refs_mapq, refs_mapb, refs_append, Bool.and_true, Bool.true_and, Bool.and_self, hrf] <;> exact rfl) | (simp only [V.cells, refsE, refsM, V.refs, V.refs.go, V.pure, V.pure.go, pure_mapq, pure_mapb, refs_mapq, refs_mapb, refs_append, Bool.and_true, Bool.true_and, Bool.and_self, hrf, hrg] <;> exact rfl) | exact lz) ?_
  rintro i x ⟨hi, hx⟩
  rcases Nat.lt_or_ge i 8 with h | h
  · have hok : i + 1 ≤ 8 ∧ readStep l x i = iter (readStep l) 0 (i + 1) := ⟨by omega, by rw [iter, ← hx]⟩
    have hb := (l.getD i default).toNat_lt
    exact wk trueW trueW trueW
  · obtain rfl : i = 8 := by omega
    have hv : qK x = qK (readQ l) := congrArg qK (hx.trans (readQ_eq l).symm)
    exact wk trueW trueW trueW
set_option maxHeartbeats 1000000 in
theorem take1 (h : Hs) (k : h.ok) (x : UInt8) : LM Try.prog 51 [.p 1000 0, bK x] [(1000, .b h.cells)] fun o m => o = .ret (.t []) ∧ m = [(1000, .b (takeH h x).cells)] := by
  have c1 := read
  obtain ⟨S, P, n⟩ := h
  obtain ⟨h1, h2, h3⟩ := k
  simp only at h1 h2 h3
  generalize hT : takeH ⟨S, P, n⟩ x = T
  simp only [Hs.cells]
  refine LM.enter tt Try.func51 rfl rfl rfl (by kernel_rfl) rfl rfl rfl (fun o mo h => by rw [h.2]; rfl) fun F _ => ?_
  rcases Nat.lt_or_ge (n + 1) 32 with h | (h : 32 ≤ n + 1)
  · have e : T = ⟨S, P.set n x, n + 1⟩ := hT.symm.trans (by unfold takeH; exact if_pos h)
    clear hT
    subst e
    exact wk trueW trueW trueW
  · have e : T = ⟨mixQ (iter (xorIn (P.set n x)) S 4), P.set n x, 0⟩ := hT.symm.trans (by unfold takeH; exact if_neg (by show ¬ n + 1 < 32; omega))
    clear hT
    obtain rfl : n = 31 := by omega
    refine wk ?_ trueW trueW
    refine LC.loop2 (fun j S' => [(0, .p 1000 0), (29, .k (.int .i64 ((j : Nat) : Int)))]) (fun j S' => [(1000, .b (S'.map qK ++ ((P.set 31 x).map bK ++ [.k (.int .i64 0)])))]) (fun j S' => j ≤ 4 ∧ S' = iter (xorIn (P.set 31 x)) S j) ((4 - ·)) (0) (S) ⟨by omega, rfl⟩ ⟨rfl, rfl, trivial⟩ ⟨rfl, trivial⟩ rfl (by first | exact rfl | (simp only [V.cells, refsE, refsM, V.refs, V.refs.go, V.pure, V.pure.go, pure_mapq, pure_mapb, refs_mapq, refs_mapb, refs_append, Bool.and_true, Bool.true_and, Bool.and_self] <;> exact rfl) | (simp only [V.cells, refsE, refsM, V.refs, V.refs.go, V.pure, V.pure.go, pure_mapq, pure_mapb, refs_mapq, refs_mapb, refs_append, Bool.and_true, Bool.true_and, Bool.and_self, hrf] <;> exact rfl) | (simp only [V.cells, refsE, refsM, V.refs, V.refs.go, V.pure, V.pure.go, pure_mapq, pure_mapb, refs_mapq, refs_mapb, refs_append, Bool.and_true, Bool.true_and, Bool.and_self, hrf, hrg] <;> exact rfl) | exact lz) (by first | exact rfl | (simp only [V.cells, refsE, refsM, V.refs, V.refs.go, V.pure, V.pure.go, pure_mapq, pure_mapb, refs_mapq, refs_mapb, refs_append, Bool.and_true, Bool.true_and, Bool.and_self] <;> exact rfl) | (simp only [V.cells, refsE, refsM, V.refs, V.refs.go, V.pure, V.pure.go, pure_mapq, pure_mapb, refs_mapq, refs_mapb, refs_append, Bool.and_true, Bool.true_and, Bool.and_self, hrf] <;> exact rfl) | (simp only [V.cells, refsE, refsM, V.refs, V.refs.go, V.pure, V.pure.go, pure_mapq, pure_mapb, refs_mapq, refs_mapb, refs_append, Bool.and_true, Bool.true_and, Bool.and_self, hrf, hrg] <;> exact rfl) | exact lz) ?_
    rintro j S' ⟨hj, hS⟩
    have hl : S'.length = 8 := by rw [hS, iter_len (xorIn_len _)]; exact h1
    rcases Nat.lt_or_ge j 4 with h | h
    · have hok : j + 1 ≤ 4 ∧ xorIn (P.set 31 x) S' j = iter (xorIn (P.set 31 x)) S (j + 1) := ⟨by omega, by rw [iter, ← hS]⟩
      clear hS e
      exact wk trueW trueW trueW
    · obtain rfl : j = 4 := by omega
      have hm := mixQ_len S'
      have c2 := Mix S' hl
      rw [← hS] at e
      clear hS
      generalize mixQ S' = M at e hm c2
      subst e
      exact wk trueW trueW trueW
theorem take (h : Hs) (k : h.ok) (x : UInt8) (i : Nat) : LM Try.prog 51 [.p i 0, bK x] [(i, .b h.cells)] fun o m => o = .ret (.t []) ∧ m = [(i, .b (takeH h x).cells)] :=
  LM.box1 (fun k => [.p k 0, bK x]) (fun _ _ => rfl) (refs_cells _ h) (refs_cells _ _) rfl (take1 h k x) i
end Sp
def writeH (h : Hs) (b : List UInt8) : Hs := b.foldl takeH h
theorem writeH_ok {h : Hs} (k : h.ok) : ∀ b, (writeH h b).ok := by
  intro b
  induction b generalizing h with
  | nil => exact k
  | cons x r ih => exact ih (takeH_ok k x)
theorem foldl_take {α β : Type} [Inhabited α] {f : β → α → β} {s : β} {l : List α} {k : Nat} (h : k < l.length) : (l.take (k + 1)).foldl f s = f ((l.take k).foldl f s) (l.getD k default) := by
  rw [List.take_succ_eq_append_getElem h, List.foldl_append, List.getD_eq_getElem?_getD, List.getElem?_eq_getElem h]; rfl
attribute [irreducible] writeH Hs.cells
namespace Sp
set_option maxHeartbeats 1000000 in
theorem Write1 (h : Hs) (k : h.ok) (l : List UInt8) (hl : l.length < 1073741824) : LM Try.prog 39 [.p 1000 0, .s none (l.map bK)] [(1000, .b h.cells)] fun o m => o = .ret (.t []) ∧ m = [(1000, .b (writeH h l).cells)] := by
  have c1 := take
  refine LM.enter tt Try.func39 rfl rfl rfl (by kernel_rfl) rfl rfl rfl (fun o mo h => by rw [h.2]; rfl) fun F _ => ?_
  have hrf := refs_cells
  refine wk ?_ trueW trueW
  refine LC.loop2 (fun j H => [(0, .p 1000 0), (6, .s none (l.map bK)), (7, .k (.int .i64 ((l.length : Nat) : Int))), (8, .k (.int .i64 ((j : Nat) : Int)))]) (fun j H => [(1000, .b H.cells)]) (fun j H => j ≤ l.length ∧ H = writeH h (l.take j)) ((l.length - ·)) (0) (h) ⟨by omega, by simp [writeH]⟩ ⟨rfl, rfl, rfl, rfl, trivial⟩ ⟨rfl, trivial⟩ rfl (by first | exact rfl | (simp only [V.cells, refsE, refsM, V.refs, V.refs.go, V.pure, V.pure.go, pure_mapq, pure_mapb, refs_mapq, refs_mapb, refs_append, Bool.and_true, Bool.true_and, Bool.and_self] <;> exact rfl) | (simp only [V.cells, refsE, refsM, V.refs, V.refs.go, V.pure, V.pure.go, pure_mapq, pure_mapb, refs_mapq, refs_mapb, refs_append, Bool.and_true, Bool.true_and, Bool.and_self, hrf] <;> exact rfl) | (simp only [V.cells, refsE, refsM, V.refs, V.refs.go, V.pure, V.pure.go, pure_mapq, pure_mapb, refs_mapq, refs_mapb, refs_append, Bool.and_true, Bool.true_and, Bool.and_self, hrf, hrg] <;> exact rfl) | exact lz) (by first | exact rfl | (simp only [V.cells, refsE, refsM, V.refs, V.refs.go, V.pure, V.pure.go, pure_mapq, pure_mapb, refs_mapq, refs_mapb, refs_append, Bool.and_true, Bool.true_and, Bool.and_self] <;> exact rfl) | (simp only [V.cells, refsE, refsM, V.refs, V.refs.go, V.pure, V.pure.go, pure_mapq, pure_mapb, refs_mapq, refs_mapb, refs_append, Bool.and_true, Bool.true_and, Bool.and_self, hrf] <;> exact rfl) | (simp only [V.cells, refsE, refsM, V.refs, V.refs.go, V.pure, V.pure.go, pure_mapq, pure_mapb, refs_mapq, refs_mapb, refs_append, Bool.and_true, Bool.true_and, Bool.and_self, hrf, hrg] <;> exact rfl) | exact lz) ?_
  rintro j H ⟨hj, hH⟩
  have hk : H.ok := hH ▸ writeH_ok k _
  rcases Nat.lt_or_ge j l.length with h2 | h2
  · have hok : j + 1 ≤ l.length ∧ takeH H (l.getD j default) = writeH h (l.take (j + 1)) := ⟨by omega, by rw [hH]; unfold writeH; exact (foldl_take h2).symm⟩
    exact wk trueW trueW trueW
  · obtain rfl : j = l.length := by omega
    rw [List.take_length] at hH
    subst hH
    exact wk trueW trueW trueW
theorem Write (h : Hs) (k : h.ok) (l : List UInt8) (hl : l.length < 1073741824) (i : Nat) : LM Try.prog 39 [.p i 0, .s none (l.map bK)] [(i, .b h.cells)] fun o m => o = .ret (.t []) ∧ m = [(i, .b (writeH h l).cells)] :=
  LM.box1 (fun k => [.p k 0, .s none (l.map bK)]) (fun _ _ => rfl) (refs_cells _ h) (refs_cells _ _) rfl (Write1 h k l hl) i
end Sp
end Lf
end Go.Proofs.Ytgeccggkdgpkiaa
