/- A part of the proof: texts joined. -/
import Derived.Test.YtgjoecocahpfhaaQ17282065
namespace Go.Proofs.Ytgjoecocahpfhaa
open Go.RowKit Rg
set_option linter.unusedVariables false
set_option maxRecDepth 100000
namespace Lf
open Pk
namespace Cm
open Sq
def hdrKs' : List IntKind := List.replicate 32 .u8 ++ (.u64 :: .u64 :: (List.replicate 8 .u8 ++ (.u64 :: .u64 :: (List.replicate 32 .u8 ++ (List.replicate 32 .u8 ++ (List.replicate 32 .u8 ++ (List.replicate 32 .u8 ++ List.replicate 32 .u8)))))))
theorem hdr_kinds' {h : Hdr} (k : h.ok) : KindsOf (hdrC h) hdrKs' := by
  have hu : ∀ (n : Nat) {cs : List V} {ks : List IntKind}, KindsOf cs ks → KindsOf (uK n :: cs) (.u64 :: ks) := fun n _ _ h => .cons h
  have hb : ∀ {l : List UInt8} {n : Nat} {cs : List V} {ks : List IntKind}, l.length = n → KindsOf cs ks → KindsOf (l.map bK ++ cs) (List.replicate n .u8 ++ ks) := fun hl h => KindsOf.maps (fun _ => rfl) h hl
  rw [hdrC_eq]
  exact hb k.parent (hu _ (hu _ (hb k.keeper (hu _ (hu _ (hb k.bloom (hb k.state (hb k.txs (hb k.receipts (KindsOf.map1 (fun _ => rfl) k.next))))))))))
theorem mapb_inj : ∀ {a b : List UInt8}, a.map bK = b.map bK → a = b
  | [], [], _ => rfl
  | [], _ :: _, h => by simp at h
  | _ :: _, [], h => by simp at h
  | x :: r, y :: s, h => by
    simp only [List.map_cons, List.cons.injEq, bK, V.k.injEq, Value.int.injEq, true_and] at h
    have e1 : x = y := UInt8.toNat_inj.1 (Int.ofNat.inj h.1)
    have h2 : r.map bK = s.map bK := h.2
    rw [e1, mapb_inj h2]
theorem uK_inj {a b : Nat} (h : uK a = uK b) : a = b := by
  have := V.k.inj h
  exact Int.ofNat.inj (Value.int.inj this).2
theorem app_b {a b : List UInt8} {r s : List V} (h : a.map bK ++ r = b.map bK ++ s) (hl : a.length = b.length) : a = b ∧ r = s := by
  obtain ⟨h1, h2⟩ := List.append_inj h (by rw [List.length_map, List.length_map, hl])
  exact ⟨mapb_inj h1, h2⟩
theorem app_u {a b : Nat} {r s : List V} (h : uK a :: r = uK b :: s) : a = b ∧ r = s := ⟨uK_inj (List.cons.inj h).1, (List.cons.inj h).2⟩
theorem hdrC_inj {x y : Hdr} (k : x.ok) (k' : y.ok) (h : hdrC x = hdrC y) : x = y := by
  rw [hdrC_eq, hdrC_eq] at h
  obtain ⟨e1, h⟩ := app_b h (k.parent.trans k'.parent.symm)
  obtain ⟨e2, h⟩ := app_u h
  obtain ⟨e3, h⟩ := app_u h
  obtain ⟨e4, h⟩ := app_b h (k.keeper.trans k'.keeper.symm)
  obtain ⟨e5, h⟩ := app_u h
  obtain ⟨e6, h⟩ := app_u h
  obtain ⟨e7, h⟩ := app_b h (k.bloom.trans k'.bloom.symm)
  obtain ⟨e8, h⟩ := app_b h (k.state.trans k'.state.symm)
  obtain ⟨e9, h⟩ := app_b h (k.txs.trans k'.txs.symm)
  obtain ⟨e10, h⟩ := app_b h (k.receipts.trans k'.receipts.symm)
  have e11 := mapb_inj h
  obtain ⟨a1, a2, a3, a4, a5, a6, a7, a8, a9, a10, a11⟩ := x
  obtain ⟨b1, b2, b3, b4, b5, b6, b7, b8, b9, b10, b11⟩ := y
  simp only at *
  subst e1 e2 e3 e4 e5 e6 e7 e8 e9 e10 e11
  rfl
set_option maxHeartbeats 4000000 in
theorem Shared_ (a b : List Hdr) (ha : ∀ x ∈ a, x.ok) (hb : ∀ x ∈ b, x.ok) (hla : a.length < 10000000) (hlb : b.length < 10000000) : LF Try.prog 32 [hdsV a, hdsV b] (fun _ => .k (.int .i64 ((Ch.sh a b : Nat) : Int))) none := by
  have hrf := hdrC_refs
  have hml : (a.map hdV).length = a.length := List.length_map _
  have hml2 : (b.map hdV).length = b.length := List.length_map _
  obtain ⟨s1, s2⟩ := Ch.sh_le a b
  refine LFx.mk' tt Try.func32 rfl rfl rfl (by kernel_rfl) rfl rfl fun F => ?_
  refine wk ?_ trueW trueW
  refine LC.loopN (fun n => [(0, hdsV a), (1, hdsV b), (5, .k (.int .i64 ((n : Nat) : Int)))]) (fun n => []) (fun n => n ≤ Ch.sh a b) ((a.length - ·)) (0) (Nat.zero_le _) ⟨rfl, rfl, rfl, trivial⟩ trivial rfl rfW rfW ?_
  intro n hn
  rcases Nat.lt_or_ge n (Ch.sh a b) with h | h
  · have h1 : n < a.length := by omega
    have h2 : n < b.length := by omega
    have k1 := getD_ok ha h1
    have k2 := getD_ok hb h2
    have hk := hdr_kinds' k1
    have hk2 := hdr_kinds' k2
    have hx1 := hdrC_len k1
    have hx2 := hdrC_len k2
    have e := congrArg hdrC (Ch.sh_at a b n h)
    have hnn : ¬ ¬ hdrC (a.getD n default) = hdrC (b.getD n default) := fun f => f e
    have hok : n + 1 ≤ Ch.sh a b := h
    have hmin : min ((a.length : Nat) : Int) ((b.length : Nat) : Int) = ((min a.length b.length : Nat) : Int) := by omega
    exact wk trueW trueW trueW
  · obtain rfl : n = Ch.sh a b := by omega
    by_cases h1 : Ch.sh a b < a.length ∧ Ch.sh a b < b.length
    · have k1 := getD_ok ha h1.1
      have k2 := getD_ok hb h1.2
      have hne : ¬ hdrC (a.getD (Ch.sh a b) default) = hdrC (b.getD (Ch.sh a b) default) := fun e => Ch.sh_ne a b h1.1 h1.2 (hdrC_inj k1 k2 e)
      obtain ⟨h1, h2⟩ := h1
      have hk := hdr_kinds' k1
      have hk2 := hdr_kinds' k2
      have hx1 := hdrC_len k1
      have hx2 := hdrC_len k2
      generalize Ch.sh a b = n at *
      exact wk trueW trueW trueW
    · generalize Ch.sh a b = n at *
      exact wk trueW trueW trueW
set_option maxHeartbeats 4000000 in
theorem SameH_ (a b : List Hdr) (ha : ∀ x ∈ a, x.ok) (hb : ∀ x ∈ b, x.ok) (hla : a.length < 10000000) (hlb : b.length < 10000000) : LF Try.prog 16 [hdsV a, hdsV b] (fun _ => .k (.bool (decide (a = b)))) none := by
  have hrf := hdrC_refs
  have hml : (a.map hdV).length = a.length := List.length_map _
  have hml2 : (b.map hdV).length = b.length := List.length_map _
  by_cases hl : a.length = b.length
  · have hab : (∀ i, i < a.length → a.getD i default = b.getD i default) → a = b := list_ext_getD hl
    refine LFx.mk' tt Try.func16 rfl rfl rfl (by kernel_rfl) rfl rfl fun F => ?_
    refine wk ?_ trueW trueW
    refine LC.loopN (fun i => [(0, hdsV a), (1, hdsV b), (12, .k (.int .i64 ((a.length : Nat) : Int))), (13, .k (.int .i64 ((i : Nat) : Int)))]) (fun i => []) (fun i => i ≤ a.length ∧ ∀ j, j < i → a.getD j default = b.getD j default) ((a.length - ·)) (0) ⟨Nat.zero_le _, fun j hj => absurd hj (Nat.not_lt_zero _)⟩ ⟨rfl, rfl, rfl, rfl, trivial⟩ trivial rfl rfW rfW ?_
    intro i ⟨hi, hS⟩
    rcases Nat.lt_or_ge i a.length with h | h
    · have k1 := getD_ok ha h
      have k2 := getD_ok hb (show i < b.length by omega)
      have hk := hdr_kinds' k1
      have hk2 := hdr_kinds' k2
      have hx1 := hdrC_len k1
      have hx2 := hdrC_len k2
      by_cases e : a.getD i default = b.getD i default
      · have hok : i + 1 ≤ a.length ∧ ∀ j, j < i + 1 → a.getD j default = b.getD j default := ⟨h, fun j hj => by
          by_cases ej : j = i
          · rw [ej]; exact e
          · exact hS j (by omega)⟩
        have e2 := congrArg hdrC e
        have hnn : ¬ ¬ hdrC (a.getD i default) = hdrC (b.getD i default) := fun f => f e2
        clear hab hS e
        exact wk trueW trueW trueW
      · have hd : decide (a = b) = false := decide_eq_false fun e2 => e (by rw [e2])
        rw [hd]
        have hne : ¬ hdrC (a.getD i default) = hdrC (b.getD i default) := fun e2 => e (hdrC_inj k1 k2 e2)
        clear hab hS e hd
        exact wk trueW trueW trueW
    · have hd : decide (a = b) = true := decide_eq_true (hab fun j hj => hS j (by omega))
      rw [hd]
      clear hab hS hd
      exact wk trueW trueW trueW
  · have hd : decide (a = b) = false := decide_eq_false fun e => hl (by rw [e])
    rw [hd]
    refine LFx.mk' tt Try.func16 rfl rfl rfl (by kernel_rfl) rfl rfl fun F => ?_
    exact wk trueW trueW trueW
theorem hds_sz {l : List Hdr} (h : ∀ x ∈ l, x.ok) : ∀ e ∈ l.map hdV, e.cells.length = 204 := fun e he => by
  obtain ⟨x, hx, rfl⟩ := List.mem_map.1 he
  exact hdrC_len (h x hx)
theorem hdrC_plain (h : Hdr) : ∀ c ∈ hdrC h, ∃ v : Value, c = .k v ∧ (V.k v).one = true := by
  have hb : ∀ {l : List UInt8} {c : V}, c ∈ l.map bK → ∃ v : Value, c = .k v ∧ (V.k v).one = true := fun hc => by
    obtain ⟨x, _, rfl⟩ := List.mem_map.1 hc
    exact ⟨_, rfl, rfl⟩
  intro c hc
  rw [hdrC_eq] at hc
  simp only [List.mem_append, List.mem_cons] at hc
  rcases hc with hc | rfl | rfl | hc | rfl | rfl | hc | hc | hc | hc | hc
  all_goals first | exact hb hc | exact ⟨_, rfl, rfl⟩
set_option maxHeartbeats 4000000 in
theorem CloneH (es : List V) (hs : ∀ e ∈ es, e.cells.length = 204) (hl : es.length < 10000000) (k : Nat) : LM Try.prog 14 [.s none es] [] fun o m => o = .ret (.s (some k) es) ∧ m = [(k, .r 28 204 es.length)] := by
  refine LM.row1 (k0 := 5) (fun _ => rfl) ?_ k
  refine LFx.mk' tt Try.func14 rfl rfl rfl (by kernel_rfl) rfl rfl fun F => ?_
  refine LC.seq (LC.region (LS.pp rfl rfl (Does.assign rfl rfl) rfl (LS.nil ?_)))
  refine LC.seq (LC.seq (LC.region (LS.pp rfl rfl (Does.move rfl rfl) rfl (LS.eqNil tt rfl rfl rfl rfl rfl rfl rfl (fun he => LS.nil ?_) (LS.nil ?_)))))
  · subst he
    refine LC.condT rfl (LC.seq (LC.region (LS.pp rfl rfl (Does.assign rfl rfl) rfl (LS.nil ?_))))
    refine LC.nilrow 2 5 28 204 rfl rfl rfl ?_
    exact wk trueW trueW trueW
  · refine LC.condF rfl ?_
    exact wk trueW trueW trueW
theorem CloneW (l : List Hdr) (h : ∀ x ∈ l, x.ok) (h0 : 0 < l.length) (hl : l.length < 10000000) (k : Nat) : LM Try.prog 14 [hdsV l] [] fun o m => o = .ret (.w k l.length 204 0 l.length) ∧ m = [(k, .w 28 204 l.length (l.map hdV))] := by
  have hml : (l.map hdV).length = l.length := List.length_map _
  have := CloneH (l.map hdV) (hds_sz h) (by omega) k
  rw [hml] at this
  exact LM.bufK hml h0 (fun e he => by
    refine ⟨hds_sz h e he, ?_⟩
    obtain ⟨x, _, rfl⟩ := List.mem_map.1 he
    exact hdrC_plain x) this
set_option maxHeartbeats 4000000 in
theorem Reverse0 : LM Try.prog 20 [.s none []] [] fun o m => o = .ret (.t []) ∧ m = [] := by
  refine LFx.mk' tt Try.func20 rfl rfl rfl (by kernel_rfl) rfl rfl fun F => ?_
  refine wk ?_ trueW trueW
  refine LC.loopN (fun i => [(0, .s none []), (2, .k (.int .i64 0)), (3, .k (.int .i64 (-1)))]) (fun i => []) (fun i => i ≤ 0) ((0 - ·)) (0) (by omega) ⟨rfl, rfl, rfl, trivial⟩ trivial rfl rfW rfW ?_
  intro i hi
  exact wk trueW trueW trueW
end Cm
end Lf
open Go.RowKit Rg
set_option linter.unusedVariables false
set_option maxRecDepth 100000
namespace Lf
open Pk
namespace Cm
open Sq
theorem drop_ok {l : List Hdr} (h : ∀ x ∈ l, x.ok) (n : Nat) : ∀ x ∈ l.drop n, x.ok := fun x hx => h x (List.mem_of_mem_drop hx)
theorem CloneK (l : List Hdr) (h : ∀ x ∈ l, x.ok) (hl : l.length < 10000000) (k : Nat) : LM Try.prog 14 [hdsV l] [] fun o m => o = .ret (.s (some k) (l.map hdV)) ∧ m = [(k, .r 28 204 (l.map hdV).length)] :=
  CloneH (l.map hdV) (hds_sz h) (by rw [List.length_map]; exact hl) k
theorem Clone0 {l : List Hdr} (h : l = []) (k : Nat) : LM Try.prog 14 [hdsV l] [] fun o m => o = .ret (.s (some k) []) ∧ m = [(k, .r 28 204 0)] := by
  subst h
  exact CloneK [] (fun x hx => by cases hx) (by decide) k
set_option maxHeartbeats 4000000 in
theorem Turn_ (a b : List Hdr) (ha : ∀ x ∈ a, x.ok) (hb : ∀ x ∈ b, x.ok) (hla : a.length < 10000000) (hlb : b.length < 10000000) : LF Try.prog 17 [hdsV a, hdsV b] (fun _ => .t [hdsV (a.drop (Ch.sh a b)).reverse, hdsV (b.drop (Ch.sh a b))]) none := by
  have hrf := hdrC_refs
  have c1 := Shared_ a b ha hb hla hlb
  have hzs := hds_sz ha
  have hzs2 := hds_sz hb
  have hml : (a.map hdV).length = a.length := List.length_map _
  have hml2 : (b.map hdV).length = b.length := List.length_map _
  obtain ⟨s1, s2⟩ := Ch.sh_le a b
  generalize Ch.sh a b = n at *
  have hdl : (a.drop n).length = a.length - n := List.length_drop
  have hdl2 : (b.drop n).length = b.length - n := List.length_drop
  have c3 := fun k => CloneK (b.drop n) (drop_ok hb n) (by omega) k
  rcases Nat.eq_zero_or_pos (a.drop n).length with h0 | h0
  · have hnil : a.drop n = [] := List.eq_nil_of_length_eq_zero h0
    have c2 : ∀ k, LM Try.prog 14 [hdsV (a.drop n)] [] fun o m => o = .ret (.s (some k) []) ∧ m = [(k, .r 28 204 0)] := Clone0 hnil
    have c4 := Reverse0
    have hrn : hdsV (a.drop n).reverse = .s none [] := by rw [hnil]; rfl
    rw [hrn]
    refine LFx.mk' tt Try.func17 rfl rfl rfl (by kernel_rfl) rfl rfl fun F => ?_
    exact wk trueW trueW trueW
  · have c2 := CloneW (a.drop n) (drop_ok ha n) h0 (by omega) 13
    have r4 := Reverse_ (a.drop n) (a.drop n).length (drop_ok ha n) (by omega) 13
    have hrl : ((a.drop n).reverse.map hdV).length = (a.drop n).length := by rw [List.length_map, List.length_reverse]
    refine LFx.mk' tt Try.func17 rfl rfl rfl (by kernel_rfl) rfl rfl fun F => ?_
    refine wk ?_ trueW trueW
    refine DR.cm rfl rfl (Does.callM r4 (by with_reducible exact rfl) rfl (.same _) rfl) ⟨rfl, trivial⟩ rfl ?_
    refine .nl rfl ?_
    show LC _ _ _ _ _ _ _
    refine LC.frztmp 4 13 rfl rfl (by rw [hrl]; omega) (es' := (a.drop n).reverse.map hdV) (by rw [List.drop_zero]; exact List.take_of_length_le (by rw [hrl]; exact Nat.le_refl _)) ?_
    exact wk trueW trueW trueW
end Cm
end Lf
end Go.Proofs.Ytgjoecocahpfhaa
