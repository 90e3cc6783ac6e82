/- PackApart, PackBack, PackOnly. -/
import Derived.Test.YtgeccggkdgpkiaaPk9
import Derived.Test.YtgeccggkdgpkiaaPkO
namespace Go.Proofs.Ytgeccggkdgpkiaa
open Go.RowKit Rg Wm Ar
set_option maxRecDepth 100000
namespace Lf
open Pk
mutual
theorem nrm_nrm : ∀ a, nrm (nrm a) = nrm a
  | .mk false t ks => by simp [nrm]
  | .mk true t ks => by simp [nrm, nrmL_nrmL ks]
theorem nrmL_nrmL : ∀ a, nrmL (nrmL a) = nrmL a
  | [] => rfl
  | k :: r => by simp [nrmL, nrm_nrm k, nrmL_nrmL r]
end
mutual
theorem nrm_size : ∀ a, (nrm a).size ≤ a.size
  | .mk false t ks => by simp [nrm, Itm.size, Itm.sizeL]
  | .mk true t ks => by have := nrmL_size ks; simp [nrm, Itm.size]; omega
theorem nrmL_size : ∀ a, Itm.sizeL (nrmL a) ≤ Itm.sizeL a
  | [] => Nat.le_refl _
  | k :: r => by have h1 := nrm_size k; have h2 := nrmL_size r; simp only [nrmL, Itm.sizeL]; omega
end
theorem head_pos (b n : Nat) : 1 ≤ (Pk.head b n).length := by unfold Pk.head; split <;> simp
mutual
theorem enc_size : ∀ a, (nrm a).size + 1 ≤ 3 * (enc a).length
  | .mk false t ks => by
    unfold enc
    simp only [nrm, Itm.size, Itm.sizeL]
    split
    · rename_i h; omega
    · have := head_pos 128 t.length; simp only [List.length_append]; omega
  | .mk true t ks => by
    have h := encL_size ks
    have := head_pos 192 (encL ks).length
    unfold enc
    simp only [nrm, Itm.size, List.length_append, List.length_nil]
    omega
theorem encL_size : ∀ a, Itm.sizeL (nrmL a) ≤ 3 * (encL a).length
  | [] => by simp [nrmL, Itm.sizeL]
  | k :: r => by
    have h1 := enc_size k
    have h2 := encL_size r
    unfold encL
    simp only [nrmL, Itm.sizeL, List.length_append]
    omega
end
theorem dec_nrm {b : List UInt8} {k : Itm} (h : dec b = some k) : nrm k = k := by
  unfold dec at h
  cases hr : rd b with
  | none => rw [hr] at h; cases h
  | some x =>
    obtain ⟨k', r⟩ := x
    rw [hr] at h
    cases r with
    | cons => cases h
    | nil => cases h; exact ((rd_uniq b.length).1 b [] k (Nat.le_refl _) hr).2
theorem same_self (a : Itm) : same a a = true := (same_iff a a).2 rfl
namespace Pw
set_option maxHeartbeats 1000000 in
theorem PackApart (a b : Itm) (ha : a.size < 2000000) (hb : b.size < 2000000) : LF Try.prog 9 [itV a, itV b] (fun _ => .k (.bool true)) none := by
  have c1 := alive5
  have c2 := SameItem 2000000 a b (by omega) (by decide) (by omega)
  have l1 := enc_len a (by omega)
  have l2 := enc_len b (by omega)
  rw [enc_apart (by omega)] at c2
  have c3 := Encode 2000000 a (by omega) (by decide)
  have c4 := Encode 2000000 b (by omega) (by decide)
  have hs := eqS (enc a) (enc b)
  have hk1 := itC_len a
  have hk2 := itC_len b
  have hrf := itC_refs
  generalize enc a = x at *
  generalize enc b = y at *
  by_cases h : x = y
  · rw [decide_eq_true h] at c2 hs
    clear h
    refine LFx.mk' tt Try.func9 rfl rfl rfl (by kernel_rfl) rfl rfl fun F => ?_
    exact wk trueW trueW trueW
  · rw [decide_eq_false h] at c2 hs
    clear h
    refine LFx.mk' tt Try.func9 rfl rfl rfl (by kernel_rfl) rfl rfl fun F => ?_
    exact wk trueW trueW trueW
set_option maxHeartbeats 1000000 in
theorem PackBack (a : Itm) (ha : a.size < 2000000) : LF Try.prog 10 [itV a] (fun _ => .k (.bool true)) none := by
  have c1 := alive5
  have l1 := enc_len a (by omega)
  have hn := nrm_size a
  have c2 := SameItem 2000000 (nrm a) a (by omega) (by decide) (by omega)
  rw [(same_iff (nrm a) a).2 (nrm_nrm a)] at c2
  have c3 := Encode 2000000 a (by omega) (by decide)
  have c4 := Decode_ok (enc a) (nrm a) (by omega) (dec_enc (by omega))
  have hk1 := itC_len a
  have hk2 := itC_len (nrm a)
  have hrf := itC_refs
  generalize enc a = x at *
  refine LFx.mk' tt Try.func10 rfl rfl rfl (by kernel_rfl) rfl rfl fun F => ?_
  exact wk trueW trueW trueW
set_option maxHeartbeats 1000000 in
theorem PackOnly (b : List UInt8) (hb : b.length < 2000000) : LF Try.prog 11 [bV b] (fun _ => .k (.bool true)) none := by
  have c1 := alive5
  have hrf := itC_refs
  cases hd : dec b with
  | none =>
    have c2 := Decode_no b (by omega) hd
    have c3 := SameItem 100 (.mk false [] []) (.mk false [] []) (by decide) (by decide) (by decide)
    rw [same_self, itV_false] at c3
    clear hd
    refine LFx.mk' tt Try.func11 rfl rfl rfl (by kernel_rfl) rfl rfl fun F => ?_
    exact wk trueW trueW trueW
  | some k =>
    have c2 := Decode_ok b k (by omega) hd
    have e := dec_uniq hd
    have hsz := enc_size k
    rw [dec_nrm hd, ← e] at hsz
    have c3 := Encode 6000000 k (by omega) (by decide)
    rw [← e] at c3
    have hs := eqS b b
    rw [decide_eq_true rfl] at hs
    have hk1 := itC_len k
    clear hd e
    refine LFx.mk' tt Try.func11 rfl rfl rfl (by kernel_rfl) rfl rfl fun F => ?_
    exact wk trueW trueW trueW
end Pw
end Lf
end Go.Proofs.Ytgeccggkdgpkiaa
