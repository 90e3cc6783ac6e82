/- The sponge's arithmetic, no program in sight. -/
import Derived.Test.YtgeccggkdgpkiaaLq
namespace Go.Proofs.Ytgeccggkdgpkiaa
namespace Lf
def rotl (x : UInt64) (k : Nat) : UInt64 := UInt64.ofNat ((x.toNat * 2 ^ k % 2 ^ 64) ||| (x.toNat / 2 ^ (64 - k)))
theorem rotl_toNat (x : UInt64) (k : Nat) : (rotl x k).toNat = ((x.toNat * 2 ^ k % 2 ^ 64) ||| (x.toNat / 2 ^ (64 - k))) := by
  unfold rotl
  rw [UInt64.toNat_ofNat']
  exact Nat.mod_eq_of_lt (Nat.or_lt_two_pow (Nat.mod_lt _ (Nat.two_pow_pos 64)) (Nat.lt_of_le_of_lt (Nat.div_le_self _ _) x.toNat_lt))
def qmix (s : List UInt64) (i : Nat) : UInt64 := rotl (s.getD ((i + 1) % 8) default ^^^ s.getD ((i + 5) % 8) default) (5 * i + 3)
def qstep (s : List UInt64) (i : Nat) : List UInt64 := s.set i (s.getD i default + qmix s i)
def kr (r : Nat) : UInt64 := UInt64.ofNat ((r + 1) * 11400714819323198485 % 2 ^ 64)
def qkey (s : List UInt64) (r : Nat) : List UInt64 := s.set 0 (s.getD 0 default ^^^ kr r)
def qround (s : List UInt64) (r : Nat) : List UInt64 := iter qstep (qkey s r) 8
def mixQ (s : List UInt64) : List UInt64 := iter qround s 12
def ustep (s : List UInt64) (k : Nat) : List UInt64 := s.set (7 - k) (s.getD (7 - k) default - qmix s (7 - k))
def uround (s : List UInt64) (k : Nat) : List UInt64 := qkey (iter ustep s 8) (11 - k)
def unmixQ (s : List UInt64) : List UInt64 := iter uround s 12
theorem qstep_len (s : List UInt64) (i : Nat) : (qstep s i).length = s.length := by simp [qstep]
theorem ustep_len (s : List UInt64) (i : Nat) : (ustep s i).length = s.length := by simp [ustep]
theorem qkey_len (s : List UInt64) (i : Nat) : (qkey s i).length = s.length := by simp [qkey]
theorem iter_len {f : List UInt64 → Nat → List UInt64} (hf : ∀ s i, (f s i).length = s.length) (s : List UInt64) (n : Nat) : (iter f s n).length = s.length := iter_inv (p := fun t => t.length = s.length) (fun t i h => (hf t i).trans h) rfl n
theorem qround_len (s : List UInt64) (i : Nat) : (qround s i).length = s.length := (iter_len qstep_len _ 8).trans (qkey_len s i)
theorem uround_len (s : List UInt64) (i : Nat) : (uround s i).length = s.length := (qkey_len _ _).trans (iter_len ustep_len _ 8)
theorem mixQ_len (s : List UInt64) : (mixQ s).length = s.length := iter_len qround_len s 12
theorem unmixQ_len (s : List UInt64) : (unmixQ s).length = s.length := iter_len uround_len s 12
/-! Back and forth -/
theorem qmix_set {s : List UInt64} {i : Nat} (x : UInt64) (h : i < 8) : qmix (s.set i x) i = qmix s i := by
  have h1 : i ≠ (i + 1) % 8 := by omega
  have h2 : i ≠ (i + 5) % 8 := by omega
  simp only [qmix, List.getD_eq_getElem?_getD, List.getElem?_set_ne h1, List.getElem?_set_ne h2]
theorem set_get {s : List UInt64} {i : Nat} : s.set i (s.getD i default) = s := by
  apply List.ext_getElem?
  intro j
  rw [List.getElem?_set]
  split
  · rename_i h; subst h
    split
    · rename_i h; simp [h]
    · rename_i h; simp at h; simp [h]
  · rfl
theorem getD_set {s : List UInt64} {i : Nat} {x : UInt64} (h : i < s.length) : (s.set i x).getD i default = x := by
  simp [List.getD_eq_getElem?_getD, h]
theorem ustep_qstep {s : List UInt64} (hs : s.length = 8) {k : Nat} (hk : k < 8) : ustep (qstep s (7 - k)) k = s := by
  unfold ustep
  rw [show qstep s (7 - k) = s.set (7 - k) (s.getD (7 - k) default + qmix s (7 - k)) from rfl, qmix_set _ (by omega), getD_set (by omega), List.set_set, UInt64.add_sub_cancel, set_get]
theorem qstep_ustep {s : List UInt64} (hs : s.length = 8) {k : Nat} (hk : k < 8) : qstep (ustep s k) (7 - k) = s := by
  unfold qstep
  rw [show ustep s k = s.set (7 - k) (s.getD (7 - k) default - qmix s (7 - k)) from rfl, qmix_set _ (by omega), getD_set (by omega), List.set_set, UInt64.sub_add_cancel, set_get]
theorem qkey_qkey {s : List UInt64} (hs : s.length = 8) (r : Nat) : qkey (qkey s r) r = s := by
  unfold qkey
  rw [getD_set (by omega), List.set_set, UInt64.xor_assoc, UInt64.xor_self, UInt64.xor_zero, set_get]
/-- What is undone step by step is as it was. -/
theorem iter_undo {σ : Type} {f g : σ → Nat → σ} {p : σ → Prop} (hf : ∀ s i, p s → p (f s i)) (n : Nat) (h : ∀ s k, p s → k < n → g (f s (n - 1 - k)) k = s) {s : σ} (hs : p s) : ∀ k, k ≤ n → iter g (iter f s n) k = iter f s (n - k)
  | 0, _ => rfl
  | k + 1, hk => by
    rw [iter, iter_undo hf n h hs k (by omega), show n - k = (n - 1 - k) + 1 from by omega, iter, h _ k (iter_inv hf hs _) (by omega)]
    congr 1; omega
theorem uround_qround {s : List UInt64} (hs : s.length = 8) {k : Nat} (hk : k < 12) : uround (qround s (11 - k)) k = s := by
  unfold uround qround
  have := iter_undo (f := qstep) (g := ustep) (p := fun t => t.length = 8) (fun t i h => (qstep_len t i).trans h) 8 (fun t k ht hk => ustep_qstep ht hk) (s := qkey s (11 - k)) ((qkey_len _ _).trans hs) 8 (Nat.le_refl _)
  rw [this]
  exact qkey_qkey hs _
theorem iter_redo {σ : Type} {f g : σ → Nat → σ} {p : σ → Prop} (hg : ∀ s i, p s → p (g s i)) (n : Nat) (h : ∀ s k, p s → k < n → f (g s k) (n - 1 - k) = s) {s : σ} (hs : p s) : ∀ k, k ≤ n → iter f (iter g s n) k = iter g s (n - k) := by
  refine iter_undo hg n (fun t k ht hk => ?_) hs
  have := h t (n - 1 - k) ht (by omega)
  rwa [show n - 1 - (n - 1 - k) = k from by omega] at this
theorem qround_uround {s : List UInt64} (hs : s.length = 8) {k : Nat} (hk : k < 12) : qround (uround s k) (11 - k) = s := by
  unfold uround qround
  have hl : (iter ustep s 8).length = 8 := (iter_len ustep_len _ _).trans hs
  rw [qkey_qkey hl]
  exact iter_redo (f := qstep) (g := ustep) (p := fun t => t.length = 8) (fun t i h => (ustep_len t i).trans h) 8 (fun t k ht hk => qstep_ustep ht hk) hs 8 (Nat.le_refl _)
theorem unmix_mix {s : List UInt64} (hs : s.length = 8) : unmixQ (mixQ s) = s :=
  iter_undo (f := qround) (g := uround) (p := fun t => t.length = 8) (fun t i h => (qround_len t i).trans h) 12 (fun t k ht hk => uround_qround ht hk) hs 12 (Nat.le_refl _)
theorem mix_unmix {s : List UInt64} (hs : s.length = 8) : mixQ (unmixQ s) = s :=
  iter_redo (f := qround) (g := uround) (p := fun t => t.length = 8) (fun t i h => (uround_len t i).trans h) 12 (fun t k ht hk => qround_uround ht hk) hs 12 (Nat.le_refl _)
theorem mixQ_eq (s : List UInt64) : mixQ s = iter qround s 12 := rfl
theorem unmixQ_eq (s : List UInt64) : unmixQ s = iter uround s 12 := rfl
attribute [irreducible] mixQ unmixQ rotl
end Lf
end Go.Proofs.Ytgeccggkdgpkiaa
