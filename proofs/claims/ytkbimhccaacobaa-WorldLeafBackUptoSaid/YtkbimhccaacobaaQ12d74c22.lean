/- A part of the proof: texts joined. -/
import Derived.Test.YtkbimhccaacobaaQ114c078f
namespace Go.Proofs.Ytkbimhccaacobaa
open Go.RowKit Rg Wm Ar
set_option linter.unusedVariables false
set_option maxRecDepth 100000
namespace Lf
open Tr Ro Pk
def shC (s : Shp) : List V := [.k (.int .i64 s.kind), bV s.path, bV s.value, .s none (s.kids.map bV)]
abbrev shV (s : Shp) : V := .a (shC s)
theorem shC_eq (s : Shp) : shC s = [.k (.int .i64 s.kind), bV s.path, bV s.value, .s none (s.kids.map bV)] := rfl
theorem shC_len (s : Shp) : (shC s).length = 4 := rfl
theorem shC_refs (m : Mem) (s : Shp) : V.refs.go m (shC s) = true := rfl
theorem shC_cv (s : Shp) (keep : Nat → Bool) (nn : Bool) : V.cv.go keep nn (shC s) = shC s := by rw [shC_eq]; simp [V.cv.go, V.cv]
attribute [irreducible] shC
theorem it_b1 (ks : List Itm) (o : Option Nat) : ∃ cs, vfill (fun i => [(0, 1), (1, 1), (2, 1)][i]?) ([Z.bool, Z.sl, Z.sl].map Z.v) [(0, .k (.bool true)), (2, .s o (ks.map itV))] = some cs ∧ V.cv.go (fun _ => false) true cs = itC (.mk true [] ks) := by
 refine ⟨[.k (.bool true), .nil, .s o (ks.map itV)], rfl, ?_⟩
 rw [itC_eq]
 cases o <;> rfl
theorem it_b2 (t : List UInt8) (o : Option Nat) : ∃ cs, vfill (fun i => [(0, 1), (1, 1), (2, 1)][i]?) ([Z.bool, Z.sl, Z.sl].map Z.v) [(1, .s o (t.map bK))] = some cs ∧ V.cv.go (fun _ => false) true cs = itC (.mk false t []) := by
 refine ⟨[.k (.bool false), .s o (t.map bK), .nil], rfl, ?_⟩
 rw [itC_eq]
 cases o <;> rfl
theorem full_take {ks : List (List UInt8)} {i : Nat} (h : i < ks.length) : full (ks.take (i + 1)) = full (ks.take i) + min (ks.getD i default).length 1 := by
 rw [List.take_succ_eq_append_getElem h]
 unfold full
 rw [List.filter_append, List.length_append, List.getD_eq_getElem?_getD, List.getElem?_eq_getElem h, Option.getD_some]
 by_cases hk : (ks[i]).length = 0
 ·rw [show List.filter (fun k : List UInt8 => decide (k.length ≠ 0)) [ks[i]] = [] by rw [List.filter_cons_of_neg (by simpa using hk), List.filter_nil], hk]; rfl
 ·rw [show List.filter (fun k : List UInt8 => decide (k.length ≠ 0)) [ks[i]] = [ks[i]] by rw [List.filter_cons_of_pos (by simpa using hk), List.filter_nil], List.length_singleton]
  omega
theorem full_le (ks : List (List UInt8)) (i : Nat) : full (ks.take i) ≤ i := by
 unfold full
 exact Nat.le_trans (List.length_filter_le _ _) (by rw [List.length_take]; omega)
theorem all_take {ks : List (List UInt8)} {p : List UInt8 → Bool} (h : ∀ j, j < ks.length → p (ks.getD j default) = true) : ks.all p = true := by
 rw [List.all_eq_true]
 intro x hx
 obtain ⟨i, hi, e⟩ := List.mem_iff_getElem.1 hx
 have := h i hi
 rwa [List.getD_eq_getElem?_getD, List.getElem?_eq_getElem hi, Option.getD_some, e] at this
theorem all_at {ks : List (List UInt8)} {p : List UInt8 → Bool} (h : ks.all p = true) {j : Nat} (hj : j < ks.length) : p (ks.getD j default) = true := by
 rw [List.getD_eq_getElem?_getD, List.getElem?_eq_getElem hj]
 exact List.all_eq_true.1 h _ (List.getElem_mem hj)
theorem take_map {α β : Type} [Inhabited α] {f : α → β} {l : List α} {i : Nat} (h : i < l.length) : (l.take i).map f ++ [f (l.getD i default)] = (l.take (i + 1)).map f := by
 rw [List.take_succ_eq_append_getElem h, List.map_append, List.getD_eq_getElem?_getD, List.getElem?_eq_getElem h]
 rfl
namespace Rw
theorem List0 : LF Try.prog 80 [.nil] (fun _ => .a [.k (.bool true), .nil, .nil]) none := by
 refine LFx.mk' tt Try.func80 rfl rfl rfl (by kernel_rfl) rfl rfl fun F => ?_
 exact wk trueW trueW trueW
theorem List_ (ks : List Itm) : LF Try.prog 80 [.s none (ks.map itV)] (fun _ => itV (.mk true [] ks)) none := by
 obtain ⟨cs, b1, b2⟩ := it_b1 ks none
 have hl := itC_len (.mk true [] ks)
 have hle : 0 + (itC (.mk true [] ks)).length ≤ 3 := by omega
 have hrf := itC_refs
 refine LFx.mk' tt Try.func80 rfl rfl rfl (by kernel_rfl) rfl rfl fun F => ?_
 exact wk trueW trueW trueW
theorem Text (t : List UInt8) : LF Try.prog 81 [.s none (t.map bK)] (fun _ => itV (.mk false t [])) none := by
 obtain ⟨cs, b1, b2⟩ := it_b2 t none
 have hl := itC_len (.mk false t [])
 have hle : 0 + (itC (.mk false t [])).length ≤ 3 := by omega
 have hrf := itC_refs
 refine LFx.mk' tt Try.func81 rfl rfl rfl (by kernel_rfl) rfl rfl fun F => ?_
 exact wk trueW trueW trueW
set_option maxHeartbeats 1000000 in
theorem sum_ (b : List UInt8) (lack : Bool) : LF Try.prog 86 [bV b, .k (.bool lack)] (fun _ => .k (.bool (decide (b.length = 32) || (lack && decide (b.length = 0))))) none := by
 by_cases h : b.length = 32
 ·rw [show decide (b.length = 32) = true from decide_eq_true h, Bool.true_or]
  refine LFx.mk' tt Try.func86 rfl rfl rfl (by kernel_rfl) rfl rfl fun F => ?_
  exact wk trueW trueW trueW
 ·rw [show decide (b.length = 32) = false from decide_eq_false h, Bool.false_or]
  cases lack
  ·rw [Bool.false_and]
   refine LFx.mk' tt Try.func86 rfl rfl rfl (by kernel_rfl) rfl rfl fun F => ?_
   exact wk trueW trueW trueW
  ·rw [Bool.true_and]
   by_cases h2 : b.length = 0
   ·rw [show decide (b.length = 0) = true from decide_eq_true h2]
    refine LFx.mk' tt Try.func86 rfl rfl rfl (by kernel_rfl) rfl rfl fun F => ?_
    exact wk trueW trueW trueW
   ·rw [show decide (b.length = 0) = false from decide_eq_false h2]
    refine LFx.mk' tt Try.func86 rfl rfl rfl (by kernel_rfl) rfl rfl fun F => ?_
    exact wk trueW trueW trueW
set_option maxHeartbeats 4000000 in
theorem forkItem_ (s : Shp) (hk : s.kind = 3) (hv : s.value.length < 1073741824) (hkl : s.kids.length < 1073741824) : ∃ it', LF Try.prog 87 [shV s] (fun _ => .t [itV it', .k (.bool (itmS s).isSome)]) none ∧ ∀ it, itmS s = some it → it = it' := by
  obtain ⟨k, p, v, ks⟩ := s
  obtain rfl : k = 3 := hk
  have e3 : itmS ⟨3, p, v, ks⟩ = (if ks.length = 16 ∧ v.length ≤ 1024 ∧ ks.all sum0 = true ∧ 2 ≤ min v.length 1 + full ks then some (ls (ks.map tx ++ [tx v])) else none) := rfl
  rw [e3]
  simp only at hv hkl
  simp only [shV, shC_eq]
  have bad : ∀ (hn : ¬ (ks.length = 16 ∧ v.length ≤ 1024 ∧ ks.all sum0 = true ∧ 2 ≤ min v.length 1 + full ks)) (it' : Itm), LF Try.prog 87 [.a [.k (.int .i64 3), bV p, bV v, .s none (ks.map bV)]] (fun _ => .t [itV it', .k (.bool false)]) none →
      ∃ it', LF Try.prog 87 [.a [.k (.int .i64 3), bV p, bV v, .s none (ks.map bV)]] (fun _ => .t [itV it', .k (.bool (if ks.length = 16 ∧ v.length ≤ 1024 ∧ ks.all sum0 = true ∧ 2 ≤ min v.length 1 + full ks then some (ls (ks.map tx ++ [tx v])) else none).isSome)]) none ∧ ∀ it, (if ks.length = 16 ∧ v.length ≤ 1024 ∧ ks.all sum0 = true ∧ 2 ≤ min v.length 1 + full ks then some (ls (ks.map tx ++ [tx v])) else none) = some it → it = it' := by
    intro hn it' h
    rw [if_neg hn]
    exact ⟨it', h, fun it e => by cases e⟩
  by_cases h1 : ks.length = 16
  case neg =>
    refine bad (fun h => h1 h.1) (.mk false [] []) ?_
    rw [itV_false]
    clear bad
    refine LFx.mk' tt Try.func87 rfl rfl rfl (by kernel_rfl) rfl rfl fun F => ?_
    exact wk trueW trueW trueW
  by_cases h2 : v.length ≤ 1024
  case neg =>
    refine bad (fun h => h2 h.2.1) (.mk false [] []) ?_
    rw [itV_false]
    clear bad
    refine LFx.mk' tt Try.func87 rfl rfl rfl (by kernel_rfl) rfl rfl fun F => ?_
    exact wk trueW trueW trueW
  obtain ⟨m, hm1, hm2, hm3⟩ : ∃ m, m = min v.length 1 ∧ m ≤ 1 ∧ (if (1 : Int) < (v.length : Int) then (1 : Int) else (v.length : Int)) = (m : Int) := ⟨_, rfl, Nat.min_le_right .., by split <;> omega⟩
  have c1 := List0
  by_cases h3 : ks.all sum0 = true
  · have hz : ∀ i, i < ks.length → sum0 (ks.getD i default) = true := fun i hi => all_at h3 hi
    have fin : ∀ b, b = decide (2 ≤ m + full ks) → LF Try.prog 87 [.a [.k (.int .i64 3), bV p, bV v, .s none (ks.map bV)]] (fun _ => .t [itV (ls (ks.map tx ++ [tx v])), .k (.bool b)]) none := by
      intro b hb
      clear bad h3 hm1
      have hrf := itC_refs
      have hbr := itC_bare
      have hcE := itC_eq true [] (ks.map tx ++ [tx v])
      refine LFx.mk' tt Try.func87 rfl rfl rfl (by kernel_rfl) rfl rfl fun F => ?_
      refine wk ?_ trueW trueW
      refine LC.nilcell 4 2 60 97 3 rfl rfl rfl (by decide) rfl ?_
      refine LC.loop5 (fun i S K (_u3 : Unit) (_u4 : Unit) => [(1, .p 1 0), (2, .p 2 0), (4, .p 4 0), (5, .k (.int .i64 ((S : Nat) : Int))), (25, .s none (ks.map bV)), (26, .k (.int .i64 ((ks.length : Nat) : Int))), (27, .k (.int .i64 ((i : Nat) : Int)))]) (fun i S K (_u3 : Unit) (_u4 : Unit) => [(1, .b [.k (.int .i64 3), bV p, bV v, .s none (ks.map bV)]), (4, .b [.k (.bool true), .nil, .s (some 60) (K.map itV)]), (60, .r 97 3 K.length), (2, .b [.k (.bool false), .nil, .nil])]) (fun i S K (_u3 : Unit) (_u4 : Unit) => i ≤ ks.length ∧ S = m + full (ks.take i) ∧ K = (ks.take i).map tx) ((ks.length - ·)) (0) (m) ([]) () () ⟨by omega, by rw [List.take_zero]; rfl, rfl⟩ ⟨rfl, rfl, rfl, rfl, rfl, rfl, rfl, trivial⟩ ⟨rfl, rfl, rfl, rfl, trivial⟩ rfl rfW rfW ?_
      rintro i S K _ _ ⟨hi, hS, hK⟩
      have hKl : K.length = i := by rw [hK, List.length_map, List.length_take]; omega
      have z1 : ∀ e ∈ K.map itV, e.cells.length = 3 := fun e he => by obtain ⟨x, _, rfl⟩ := List.mem_map.1 he; exact itC_len x
      rcases Nat.lt_or_ge i ks.length with h | h
      · have hzi := hz i h
        have c2 := sum_ (ks.getD i default) true
        rw [show (decide ((ks.getD i default).length = 32) || (true && decide ((ks.getD i default).length = 0))) = true from hzi] at c2
        have c3 := Text (ks.getD i default)
        have hft := full_take h
        have hfl := full_le ks i
        obtain ⟨mi, hn1, hn2, hn3⟩ : ∃ mi, mi = min (ks.getD i default).length 1 ∧ mi ≤ 1 ∧ (if (1 : Int) < ((ks.getD i default).length : Int) then (1 : Int) else ((ks.getD i default).length : Int)) = (mi : Int) := ⟨_, rfl, Nat.min_le_right .., by split <;> omega⟩
        have hok : i + 1 ≤ ks.length ∧ S + mi = m + full (ks.take (i + 1)) ∧ K ++ [tx (ks.getD i default)] = (ks.take (i + 1)).map tx := ⟨h, by omega, by rw [hK]; exact take_map h⟩
        have z2 := itC_len (.mk false (ks.getD i default) [])
        have hSb : S ≤ 18 := by omega
        clear hz hzi hS hK hft hn1 hcE hb
        exact wk trueW trueW trueW
      · obtain rfl : i = ks.length := by omega
        rw [List.take_length] at hS hK
        have c3 := Text v
        have z2 := itC_len (.mk false v [])
        subst hK
        clear hz
        have hv : itV (ls (ks.map tx ++ [tx v])) = .a [.k (.bool true), .s none [], .s none ((ks.map tx ++ [tx v]).map itV)] := itV_true _
        rw [hv]
        by_cases h5 : 2 ≤ S
        · have hbt : b = true := by rw [hb]; exact decide_eq_true (by omega)
          subst hbt
          clear hcE hS
          exact wk trueW trueW trueW
        · have hbt : b = false := by rw [hb]; exact decide_eq_false (by omega)
          subst hbt
          clear hcE hS
          exact wk trueW trueW trueW
    by_cases h4 : 2 ≤ min v.length 1 + full ks
    · rw [if_pos ⟨h1, h2, h3, h4⟩]
      exact ⟨_, fin true (by rw [hm1]; exact (decide_eq_true h4).symm), fun it e => by cases e; rfl⟩
    · exact bad (fun h => h4 h.2.2.2) _ (fin false (by rw [hm1]; exact (decide_eq_false h4).symm))
  · refine bad (fun h => h3 h.2.2.1) (.mk false [] []) ?_
    rw [itV_false]
    clear bad hm1
    have hrf := itC_refs
    have hbr := itC_bare
    refine LFx.mk' tt Try.func87 rfl rfl rfl (by kernel_rfl) rfl rfl fun F => ?_
    refine wk ?_ trueW trueW
    refine LC.nilcell 4 2 60 97 3 rfl rfl rfl (by decide) rfl ?_
    refine LC.loop5 (fun i S K (_u3 : Unit) (_u4 : Unit) => [(1, .p 1 0), (2, .p 2 0), (4, .p 4 0), (5, .k (.int .i64 ((S : Nat) : Int))), (25, .s none (ks.map bV)), (26, .k (.int .i64 ((ks.length : Nat) : Int))), (27, .k (.int .i64 ((i : Nat) : Int)))]) (fun i S K (_u3 : Unit) (_u4 : Unit) => [(1, .b [.k (.int .i64 3), bV p, bV v, .s none (ks.map bV)]), (4, .b [.k (.bool true), .nil, .s (some 60) (K.map itV)]), (60, .r 97 3 K.length), (2, .b [.k (.bool false), .nil, .nil])]) (fun i S K (_u3 : Unit) (_u4 : Unit) => i ≤ ks.length ∧ S ≤ m + i ∧ K.length = i ∧ ∀ j, j < i → sum0 (ks.getD j default) = true) ((ks.length - ·)) (0) (m) ([]) () () ⟨by omega, by omega, rfl, fun j hj => by omega⟩ ⟨rfl, rfl, rfl, rfl, rfl, rfl, rfl, trivial⟩ ⟨rfl, rfl, rfl, rfl, trivial⟩ rfl rfW rfW ?_
    rintro i S K _ _ ⟨hi, hS, hKl, hall⟩
    have z1 : ∀ e ∈ K.map itV, e.cells.length = 3 := fun e he => by obtain ⟨x, _, rfl⟩ := List.mem_map.1 he; exact itC_len x
    rcases Nat.lt_or_ge i ks.length with h | h
    · have c2 := sum_ (ks.getD i default) true
      have c3 := Text (ks.getD i default)
      obtain ⟨mi, hn1, hn2, hn3⟩ : ∃ mi, mi = min (ks.getD i default).length 1 ∧ mi ≤ 1 ∧ (if (1 : Int) < ((ks.getD i default).length : Int) then (1 : Int) else ((ks.getD i default).length : Int)) = (mi : Int) := ⟨_, rfl, Nat.min_le_right .., by split <;> omega⟩
      have z2 := itC_len (.mk false (ks.getD i default) [])
      cases hzi : sum0 (ks.getD i default) with
      | true =>
        rw [show (decide ((ks.getD i default).length = 32) || (true && decide ((ks.getD i default).length = 0))) = true from hzi] at c2
        have hok : i + 1 ≤ ks.length ∧ S + mi ≤ m + (i + 1) ∧ (K ++ [tx (ks.getD i default)]).length = i + 1 ∧ ∀ j, j < i + 1 → sum0 (ks.getD j default) = true := ⟨h, by omega, by simp [hKl], fun j hj => by
          by_cases e : j = i
          · subst e; exact hzi
          · exact hall j (by omega)⟩
        clear hall hzi h3 hn1
        exact wk trueW trueW trueW
      | false =>
        rw [show (decide ((ks.getD i default).length = 32) || (true && decide ((ks.getD i default).length = 0))) = false from hzi] at c2
        clear hall hzi h3 hn1
        exact wk trueW trueW trueW
    · exact absurd (all_take fun j hj => hall j (by omega)) h3
end Rw
end Lf
set_option maxRecDepth 100000
namespace Ro
open Tr Pk
section
variable (S : List UInt8 → List UInt8)
def nItm : Nd → Itm
 | .no => tx []
 | .leaf p v => ls [tx (tag p true), tx v]
 | .road p k => ls [tx (tag p false), tx (S (enc (nItm k)))]
 | .fork ks v => ls (((List.finRange 16).map fun i => tx (if isNo (ks i) = true then [] else S (enc (nItm (ks i))))) ++ [tx v])
def hcode (n : Nd) : List UInt8 := enc (nItm S n)
def ksum (n : Nd) : List UInt8 := if isNo n = true then [] else S (hcode S n)
def ksums (ks : Fin 16 → Nd) : List (List UInt8) := (List.finRange 16).map fun i => ksum S (ks i)
def shpN : Nd → Shp
 | .no => ⟨0, [], [], []⟩
 | .leaf p v => ⟨1, pB p, v, []⟩
 | .road p k => ⟨2, pB p, [], [S (hcode S k)]⟩
 | .fork ks v => ⟨3, [], v, ksums S ks⟩
def cds : Nd → List (List UInt8)
 | .no => [hcode S .no]
 | .leaf p v => [hcode S (.leaf p v)]
 | .road p k => hcode S (.road p k) :: cds k
 | .fork ks v => hcode S (.fork ks v) :: (List.finRange 16).flatMap fun i => if isNo (ks i) = true then [] else cds (ks i)
def kcds (n : Nd) : List (List UInt8) := if isNo n = true then [] else cds S n
theorem cds_road (p : Pa) (k : Nd) : cds S (.road p k) = hcode S (.road p k) :: cds S k := by rw [cds]
theorem cds_fork (ks : Fin 16 → Nd) (v : List UInt8) : cds S (.fork ks v) = hcode S (.fork ks v) :: (List.finRange 16).flatMap fun i => kcds S (ks i) := by rw [cds]; rfl
theorem cds_head (n : Nd) : ∃ r, cds S n = hcode S n :: r := by
 cases n <;> simp only [cds] <;> exact ⟨_, rfl⟩
theorem mem_head (n : Nd) : hcode S n ∈ cds S n := by
 obtain ⟨r, h⟩ := cds_head S n
 rw [h]; exact List.mem_cons_self ..
theorem mem_kid {ks : Fin 16 → Nd} {v : List UInt8} {i : Fin 16} (h : ks i ≠ .no) {c : List UInt8} (hc : c ∈ cds S (ks i)) : c ∈ cds S (.fork ks v) := by
 rw [cds_fork]
 refine List.mem_cons_of_mem _ (List.mem_flatMap.2 ⟨i, List.mem_finRange i, ?_⟩)
 unfold kcds
 rw [if_neg (by rw [Bool.not_eq_true]; exact isNo_ne.2 h)]
 exact hc
theorem nItm_fork (ks : Fin 16 → Nd) (v : List UInt8) : nItm S (.fork ks v) = ls ((ksums S ks ++ [v]).map tx) := by
 rw [nItm, List.map_append]
 unfold ksums
 rw [List.map_map]
 congr 1
theorem ksums_len (ks : Fin 16 → Nd) : (ksums S ks).length = 16 := by unfold ksums; rw [List.length_map, List.length_finRange]
theorem ksums_get (ks : Fin 16 → Nd) (i : Fin 16) : (ksums S ks).getD i.val default = ksum S (ks i) := by
 unfold ksums
 rw [List.getD_eq_getElem?_getD, List.getElem?_map, List.getElem?_eq_getElem (by simp)]
 simp
variable (hS : ∀ b, (S b).length = 32)
include hS
theorem ksum_no {n : Nd} : (ksum S n).length = 0 ↔ n = .no := by
 unfold ksum
 split
 ·rename_i h; simp [isNo_eq.1 h]
 ·rename_i h
  rw [hS]
  exact ⟨fun e => by omega, fun e => absurd (isNo_eq.2 e) h⟩
theorem full_ksums {ks : Fin 16 → Nd} {v : List UInt8} (h : Two ks v) : 2 ≤ min v.length 1 + full (ksums S ks) := by
 have h1 := many_of h
 have e : full (ksums S ks) = many ((List.finRange 16).map fun i => ofN (ks i)) := by
  unfold full many ksums
  rw [List.filter_map, List.length_map, List.filter_map, List.length_map]
  congr 1
  refine List.filter_congr fun i _ => ?_
  exact decide_eq_decide.2 (not_congr ((ksum_no S hS (n := ks i)).trans (kind_of (ks i)).symm))
 rw [e]
 exact h1
theorem itm_shpN {n : Nd} {d : Nat} (h : Right n d) : itmS (shpN S n) = some (nItm S n) := by
 cases n with
 | no => rfl
 | leaf p v =>
  unfold itmS shpN
  simp only [Int.reduceEq, if_true, if_false]
  rw [if_pos ⟨halves_pB p, List.length_pos_iff.2 h.2.1, h.2.2⟩, pOf_B, nItm]
 | road p k =>
  unfold itmS shpN
  simp only [Int.reduceEq, if_true, if_false]
  rw [if_pos ⟨halves_pB p, by rw [pB_len]; exact List.length_pos_iff.2 h.1, rfl, hS _⟩, pOf_B, nItm]
  rfl
 | fork ks v =>
  unfold itmS shpN
  simp only [Int.reduceEq, if_true, if_false]
  have hall : (ksums S ks).all sum0 = true := by
   rw [List.all_eq_true]
   intro x hx
   obtain ⟨i, _, rfl⟩ := List.mem_map.1 hx
   unfold sum0 ksum
   split
   ·rfl
   ·rw [hS]; rfl
  rw [if_pos ⟨ksums_len S ks, h.1, hall, full_ksums S hS h.2.2.2⟩, nItm_fork, List.map_append]
  rfl
omit hS in
theorem norm_shpN (n : Nd) : normS (shpN S n) = shpN S n := by
 cases n <;> rfl
omit hS in
theorem sizeL_tx (l : List (List UInt8)) (m : Nat) (h : ∀ t ∈ l, t.length ≤ m) : Itm.sizeL (l.map tx) ≤ l.length * (m + 2) := by
 induction l with
 | nil => exact Nat.zero_le _
 | cons a r ih =>
  rw [List.map_cons, Itm.sizeL, List.length_cons, Nat.succ_mul]
  have h1 := h a (by simp)
  have h2 := ih fun t ht => h t (by simp [ht])
  have h3 : (tx a).size = 1 + a.length + 0 := rfl
  omega
omit hS in
theorem ls_size (l : List (List UInt8)) (m : Nat) (h : ∀ t ∈ l, t.length ≤ m) : (ls (l.map tx)).size ≤ 1 + l.length * (m + 2) := by
 unfold ls
 rw [Itm.size]
 have := sizeL_tx l m h
 simp only [List.length_nil]; omega
omit hS in
theorem leaf_deep {p : Pa} {v : List UInt8} {d : Nat} (h : Right (.leaf p v) d) : d + p.length ≤ 64 := h.1.2
omit hS in
theorem right_deep {n : Nd} {d : Nat} (h : Right n d) (hn : n ≠ .no) : d ≤ 64 := by
 induction n generalizing d with
 | no => exact absurd rfl hn
 | leaf p v => have := h.1.2; omega
 | road p k ih =>
  have := ih h.2.2 (fun e => by have h2 := h.2.1; rw [e] at h2; cases h2)
  omega
 | fork ks v ih =>
  rcases h.2.2.2 with ⟨h1, _⟩ | ⟨i, _, _, h1, _⟩
  ·exact (h.2.1 h1).2
  ·have := ih i (h.2.2.1 i) h1
   omega
omit hS in
theorem path_deep {p : Pa} {k : Nd} {d : Nat} (h : Right (.road p k) d) : d + p.length ≤ 64 := by
 obtain ⟨ks, v, rfl⟩ := fork_is h.2.1
 exact right_deep h.2.2 (fun e => by cases e)
theorem nItm_size {n : Nd} {d : Nat} (h : Right n d) : (nItm S n).size ≤ 18000 := by
 cases n with
 | no => exact (by decide : 1 ≤ 18000)
 | leaf p v =>
  have h1 := leaf_deep h
  have h2 := tag_len p true
  have := ls_size [tag p true, v] 1024 (fun t ht => by
   simp only [List.mem_cons, List.not_mem_nil, or_false] at ht
   rcases ht with rfl | rfl
   ·omega
   ·exact h.2.2)
  exact Nat.le_trans this (show 1 + 2 * (1024 + 2) ≤ 18000 by omega)
 | road p k =>
  have h1 := path_deep h
  have h2 := tag_len p false
  have := ls_size [tag p false, S (enc (nItm S k))] 1024 (fun t ht => by
   simp only [List.mem_cons, List.not_mem_nil, or_false] at ht
   rcases ht with rfl | rfl
   ·omega
   ·rw [hS]; omega)
  exact Nat.le_trans this (show 1 + 2 * (1024 + 2) ≤ 18000 by omega)
 | fork ks v =>
  rw [nItm_fork]
  have := ls_size (ksums S ks ++ [v]) 1024 (fun t ht => by
   rcases List.mem_append.1 ht with ht | ht
   ·obtain ⟨i, _, rfl⟩ := List.mem_map.1 ht
    unfold ksum
    split
    ·simp
    ·rw [hS]; omega
   ·rw [List.mem_singleton] at ht; subst ht; exact h.1)
  rw [List.length_append, ksums_len] at this
  exact Nat.le_trans this (show 1 + (16 + 1) * (1024 + 2) ≤ 18000 by omega)
theorem hcode_len {n : Nd} {d : Nat} (h : Right n d) : (hcode S n).length ≤ 200000 := by
 have h1 := nItm_size S hS h
 have := enc_len (nItm S n) (by omega)
 unfold hcode
 omega
theorem read_hcode {n : Nd} {d : Nat} (h : Right n d) : readS (hcode S n) = some (shpN S n) := by
 have h1 := hcode_len S hS h
 have := read_code (itm_shpN S hS h) (by unfold hcode at h1; omega)
 rwa [norm_shpN S] at this
theorem apart : ∀ (a b : Nd) (d d' : Nat), Right a d → Right b d' → (∀ x ∈ cds S a, ∀ y ∈ cds S b, S x = S y → x = y) → S (hcode S a) = S (hcode S b) → a = b := by
 intro a
 have step : ∀ (a b : Nd) (d d' : Nat), Right a d → Right b d' → (∀ x ∈ cds S a, ∀ y ∈ cds S b, S x = S y → x = y) → S (hcode S a) = S (hcode S b) → shpN S a = shpN S b := fun a b d d' ha hb hc h => by
  have e := hc _ (mem_head S a) _ (mem_head S b) h
  have h1 := read_hcode S hS ha
  rw [e, read_hcode S hS hb] at h1
  exact (Option.some.inj h1).symm
 induction a with
 | no =>
  intro b d d' ha hb hc h
  have := congrArg Shp.kind (step _ _ _ _ ha hb hc h)
  cases b <;> first | rfl | (exfalso; revert this; simp [shpN])
 | leaf p v =>
  intro b d d' ha hb hc h
  have e := step _ _ _ _ ha hb hc h
  cases b with
  | leaf p' v' =>
   simp only [shpN, Shp.mk.injEq] at e
   rw [pB_inj e.2.1, e.2.2.1]
  | no => simp [shpN] at e
  | road p' k' => simp [shpN] at e
  | fork ks' v' => simp [shpN] at e
 | road p k ih =>
  intro b d d' ha hb hc h
  have e := step _ _ _ _ ha hb hc h
  cases b with
  | road p' k' =>
   simp only [shpN, Shp.mk.injEq, List.cons.injEq, and_true, true_and] at e
   rw [pB_inj e.1, ih k' _ _ ha.2.2 hb.2.2 (fun x hx y hy => hc x (by rw [cds_road]; exact List.mem_cons_of_mem _ hx) y (by rw [cds_road]; exact List.mem_cons_of_mem _ hy)) e.2]
  | no => simp [shpN] at e
  | leaf p' k' => simp [shpN] at e
  | fork ks' v' => simp [shpN] at e
 | fork ks v ih =>
  intro b d d' ha hb hc h
  have e := step _ _ _ _ ha hb hc h
  cases b with
  | fork ks' v' =>
   simp only [shpN, Shp.mk.injEq, true_and] at e
   obtain ⟨e1, e2⟩ := e
   rw [e1]
   congr 1
   funext i
   have e3 : ksum S (ks i) = ksum S (ks' i) := by rw [← ksums_get, ← ksums_get, e2]
   by_cases h1 : ks i = .no
   ·have h2 := (ksum_no S hS (n := ks i)).2 h1
    rw [e3] at h2
    rw [h1, (ksum_no S hS).1 h2]
   ·by_cases h2 : ks' i = .no
    ·have h3 := (ksum_no S hS (n := ks' i)).2 h2
     rw [← e3] at h3
     exact absurd ((ksum_no S hS).1 h3) h1
    ·unfold ksum at e3
     rw [if_neg (fun e => h1 (isNo_eq.1 e)), if_neg (fun e => h2 (isNo_eq.1 e))] at e3
     exact ih i (ks' i) _ _ (ha.2.2.1 i) (hb.2.2.1 i) (fun x hx y hy => hc x (mem_kid S h1 hx) y (mem_kid S h2 hy)) e3
  | no => simp [shpN] at e
  | leaf p' k' => simp [shpN] at e
  | road ks' v' => simp [shpN] at e
end
end Ro
open Go.RowKit Rg Wm Ar
set_option linter.unusedVariables false
set_option maxRecDepth 100000
namespace Lf
open Tr Ro Pk
theorem itmS_size {s : Shp} {it : Itm} (h : itmS s = some it) : it.size ≤ 2 * s.path.length + 18000 := by
  rcases itmS_list h with ⟨_, rfl⟩ | ⟨l, rfl, ⟨k, rfl, c⟩ | ⟨k, rfl, c⟩ | ⟨k, rfl, c⟩⟩
  · exact Nat.le_trans (show 1 ≤ 18000 by omega) (Nat.le_add_left _ _)
  · have h2 := tag_len (pOf s.path) true
    rw [pOf_len] at h2
    have := ls_size [tag (pOf s.path) true, s.value] (s.path.length + 1024) (fun t ht => by
      simp only [List.mem_cons, List.not_mem_nil, or_false] at ht
      rcases ht with rfl | rfl <;> omega)
    rw [show [tag (pOf s.path) true, s.value].length = 2 from rfl] at this
    omega
  · have h2 := tag_len (pOf s.path) false
    rw [pOf_len] at h2
    have := ls_size [tag (pOf s.path) false, s.kids.getD 0 default] (s.path.length + 1024) (fun t ht => by
      simp only [List.mem_cons, List.not_mem_nil, or_false] at ht
      rcases ht with rfl | rfl
      · omega
      · rw [c.2.2.2]; omega)
    rw [show [tag (pOf s.path) false, s.kids.getD 0 default].length = 2 from rfl] at this
    omega
  · have := ls_size (s.kids ++ [s.value]) 1024 (fun t ht => by
      rcases List.mem_append.1 ht with ht | ht
      · have := List.all_eq_true.1 c.2.2.1 t ht
        unfold sum0 at this
        simp only [Bool.or_eq_true, decide_eq_true_eq] at this
        omega
      · rw [List.mem_singleton] at ht; subst ht; exact c.2.1)
    rw [List.length_append, c.1, List.length_singleton] at this
    omega
namespace Rw
theorem Text0 : LF Try.prog 81 [.nil] (fun _ => itV (.mk false [] [])) none := by
 rw [itV_false]
 refine LFx.mk' tt Try.func81 rfl rfl rfl (by kernel_rfl) rfl rfl fun F => ?_
 exact wk trueW trueW trueW
theorem Tag_any (p : List UInt8) (leaf : Bool) (hp : p.length < 100000000) : ∃ (tg : List UInt8) (e : Nat), LF Try.prog 85 [bV p, .k (.bool leaf)] (fun _ => .t [bV tg, .k (.int .i64 (e : Int))]) none ∧ (halvesB p = true ∧ e = 0 ∧ tg = tag (pOf p) leaf ∨ halvesB p = false ∧ e = 1) := by
 cases h : halvesB p with
 | true =>
  have c := Te.Tag_ (pOf p) leaf (by rw [pOf_len]; exact hp)
  rw [pB_of h] at c
  exact ⟨_, 0, c, .inl ⟨rfl, rfl, rfl⟩⟩
 | false => exact ⟨[], 1, Te.Tag_no p leaf (by omega) h, .inr ⟨rfl, rfl⟩⟩
set_option maxHeartbeats 4000000 in
theorem item_ (s : Shp) (hp : s.path.length < 100000000) (hv : s.value.length < 1073741824) (hkl : s.kids.length < 1073741824) : ∃ it', LF Try.prog 46 [shV s] (fun _ => .t [itV it', .k (.bool (itmS s).isSome)]) none ∧ ∀ it, itmS s = some it → it = it' := by
  by_cases h3 : s.kind = 3
  · obtain ⟨it', c1, h⟩ := forkItem_ s h3 hv hkl
    obtain ⟨tg, e, c2, _⟩ := Tag_any s.path false hp
    refine ⟨it', ?_, h⟩
    have hk3 := itC_len it'
    have hrf := itC_refs
    generalize (itmS s).isSome = b at *
    clear h
    obtain ⟨k, p, v, ks⟩ := s
    obtain rfl : k = 3 := h3
    simp only [shV, shC_eq] at c1 c2 ⊢
    refine LFx.mk' tt Try.func46 rfl rfl rfl (by kernel_rfl) rfl rfl fun F => ?_
    exact wk trueW trueW trueW
  obtain ⟨k, p, v, ks⟩ := s
  simp only at h3 hp hv hkl
  by_cases h0 : k = 0
  · subst h0
    obtain ⟨tg, e, c2, _⟩ := Tag_any p false hp
    have c1 := Text0
    refine ⟨tx [], ?_, fun it h => ?_⟩
    · have hk3 := itC_len (.mk false [] [])
      have hrf := itC_refs
      rw [show (itmS ⟨0, p, v, ks⟩).isSome = true from rfl]
      simp only [shV, shC_eq]
      refine LFx.mk' tt Try.func46 rfl rfl rfl (by kernel_rfl) rfl rfl fun F => ?_
      exact wk trueW trueW trueW
    · cases h; rfl
  by_cases h1 : k = 1
  · subst h1
    obtain ⟨tg, e, c2, ht⟩ := Tag_any p true hp
    have c3 := Text tg
    have c4 := Text v
    have c5 := List_ [tx tg, tx v]
    have hk3 := itC_len (.mk true [] [tx tg, tx v])
    have hk4 := itC_len (.mk false tg [])
    have hk5 := itC_len (.mk false v [])
    have hrf := itC_refs
    have hbr := itC_bare
    have hcv := itC_cv
    have e1 : itmS ⟨1, p, v, ks⟩ = (if halvesB p = true ∧ 0 < v.length ∧ v.length ≤ 1024 then some (ls [tx (tag (pOf p) true), tx v]) else none) := rfl
    rw [e1]
    simp only [shV, shC_eq]
    have he : e ≤ 1 := by rcases ht with ⟨_, h, _⟩ | ⟨_, h⟩ <;> omega
    have bad : (e ≠ 0 ∨ v.length = 0 ∨ 1024 < v.length) → ∃ it', LF Try.prog 46 [.a [.k (.int .i64 1), bV p, bV v, .s none (ks.map bV)]] (fun _ => .t [itV it', .k (.bool (if halvesB p = true ∧ 0 < v.length ∧ v.length ≤ 1024 then some (ls [tx (tag (pOf p) true), tx v]) else none).isSome)]) none ∧ ∀ it, (if halvesB p = true ∧ 0 < v.length ∧ v.length ≤ 1024 then some (ls [tx (tag (pOf p) true), tx v]) else none) = some it → it = it' := by
      intro hb
      have hn : ¬ (halvesB p = true ∧ 0 < v.length ∧ v.length ≤ 1024) := fun ⟨a1, a2, a3⟩ => by
        rcases ht with ⟨_, h, _⟩ | ⟨h, _⟩
        · omega
        · rw [h] at a1; cases a1
      rw [if_neg hn]
      refine ⟨ls [tx tg, tx v], ?_, fun it h => by cases h⟩
      clear hn ht
      show LF _ _ _ (fun _ => V.t [itV (ls [tx tg, tx v]), .k (.bool false)]) none
      rcases hb with hb | hb | hb
      · obtain rfl : e = 1 := by omega
        refine LFx.mk' tt Try.func46 rfl rfl rfl (by kernel_rfl) rfl rfl fun F => ?_
        exact wk trueW trueW trueW
      · by_cases h : e = 0
        · subst h
          refine LFx.mk' tt Try.func46 rfl rfl rfl (by kernel_rfl) rfl rfl fun F => ?_
          exact wk trueW trueW trueW
        · obtain rfl : e = 1 := by omega
          refine LFx.mk' tt Try.func46 rfl rfl rfl (by kernel_rfl) rfl rfl fun F => ?_
          exact wk trueW trueW trueW
      · by_cases h : e = 0
        · subst h
          refine LFx.mk' tt Try.func46 rfl rfl rfl (by kernel_rfl) rfl rfl fun F => ?_
          exact wk trueW trueW trueW
        · obtain rfl : e = 1 := by omega
          refine LFx.mk' tt Try.func46 rfl rfl rfl (by kernel_rfl) rfl rfl fun F => ?_
          exact wk trueW trueW trueW
    by_cases h : e ≠ 0 ∨ v.length = 0 ∨ 1024 < v.length
    · exact bad h
    · clear bad
      obtain rfl : e = 0 := by omega
      obtain ⟨a1, _, a2⟩ : halvesB p = true ∧ 0 = 0 ∧ tg = tag (pOf p) true := by rcases ht with h | ⟨_, h⟩ <;> first | exact h | omega
      have hv1 : 0 < v.length := by omega
      have hv2 : v.length ≤ 1024 := by omega
      rw [if_pos ⟨a1, hv1, hv2⟩, ← a2]
      refine ⟨ls [tx tg, tx v], ?_, fun it h => by cases h; rfl⟩
      show LF _ _ _ (fun _ => V.t [itV (ls [tx tg, tx v]), .k (.bool true)]) none
      clear a1 a2 ht h he e1
      refine LFx.mk' tt Try.func46 rfl rfl rfl (by kernel_rfl) rfl rfl fun F => ?_
      exact wk trueW trueW trueW
  by_cases h2 : k = 2
  · subst h2
    obtain ⟨tg, e, c2, ht⟩ := Tag_any p false hp
    have e2 : itmS ⟨2, p, v, ks⟩ = (if halvesB p = true ∧ 0 < p.length ∧ ks.length = 1 ∧ (ks.getD 0 default).length = 32 then some (ls [tx (tag (pOf p) false), tx (ks.getD 0 default)]) else none) := rfl
    rw [e2]
    simp only [shV, shC_eq]
    have he : e ≤ 1 := by rcases ht with ⟨_, h, _⟩ | ⟨_, h⟩ <;> omega
    have c6 := sum_ (ks.getD 0 default) false
    rw [Bool.false_and, Bool.or_false] at c6
    by_cases hb : e ≠ 0 ∨ p.length = 0 ∨ ks.length ≠ 1 ∨ (ks.getD 0 default).length ≠ 32
    · have hn : ¬ (halvesB p = true ∧ 0 < p.length ∧ ks.length = 1 ∧ (ks.getD 0 default).length = 32) := fun ⟨a1, a2, a3, a4⟩ => by
        rcases ht with ⟨_, h, _⟩ | ⟨h, _⟩
        · omega
        · rw [h] at a1; cases a1
      rw [if_neg hn]
      refine ⟨.mk false [] [], ?_, fun it h => by cases h⟩
      rw [itV_false]
      clear hn ht
      show LF _ _ _ (fun _ => V.t [_, .k (.bool false)]) none
      by_cases g1 : e = 0
      · subst g1
        by_cases g2 : p.length = 0
        · clear hb
          refine LFx.mk' tt Try.func46 rfl rfl rfl (by kernel_rfl) rfl rfl fun F => ?_
          exact wk trueW trueW trueW
        · by_cases g3 : ks.length = 1
          · have g4 : ¬ (ks.getD 0 default).length = 32 := by omega
            rw [decide_eq_false g4] at c6
            clear hb
            refine LFx.mk' tt Try.func46 rfl rfl rfl (by kernel_rfl) rfl rfl fun F => ?_
            exact wk trueW trueW trueW
          · clear hb
            refine LFx.mk' tt Try.func46 rfl rfl rfl (by kernel_rfl) rfl rfl fun F => ?_
            exact wk trueW trueW trueW
      · obtain rfl : e = 1 := by omega
        clear hb
        refine LFx.mk' tt Try.func46 rfl rfl rfl (by kernel_rfl) rfl rfl fun F => ?_
        exact wk trueW trueW trueW
    · obtain rfl : e = 0 := by omega
      obtain ⟨a1, _, a2⟩ : halvesB p = true ∧ 0 = 0 ∧ tg = tag (pOf p) false := by rcases ht with h | ⟨_, h⟩ <;> first | exact h | omega
      have hv1 : 0 < p.length := by omega
      have hv2 : ks.length = 1 := by omega
      have hv3 : (ks.getD 0 default).length = 32 := by omega
      rw [if_pos ⟨a1, hv1, hv2, hv3⟩, ← a2]
      rw [decide_eq_true hv3] at c6
      have c3 := Text tg
      have c4 := Text (ks.getD 0 default)
      have c5 := List_ [tx tg, tx (ks.getD 0 default)]
      have hk3 := itC_len (.mk true [] [tx tg, tx (ks.getD 0 default)])
      have hk4 := itC_len (.mk false tg [])
      have hk5 := itC_len (.mk false (ks.getD 0 default) [])
      have hrf := itC_refs
      have hbr := itC_bare
      have hcv := itC_cv
      refine ⟨ls [tx tg, tx (ks.getD 0 default)], ?_, fun it h => by cases h; rfl⟩
      show LF _ _ _ (fun _ => V.t [itV (ls [tx tg, tx (ks.getD 0 default)]), .k (.bool true)]) none
      clear a1 a2 ht hb he e2
      refine LFx.mk' tt Try.func46 rfl rfl rfl (by kernel_rfl) rfl rfl fun F => ?_
      exact wk trueW trueW trueW
  · obtain ⟨tg, e, c2, _⟩ := Tag_any p false hp
    have e4 : itmS ⟨k, p, v, ks⟩ = none := by
      unfold itmS
      rw [if_neg h0, if_neg h1, if_neg h2, if_neg h3]
    rw [e4]
    refine ⟨.mk false [] [], ?_, fun it h => by cases h⟩
    simp only [shV, shC_eq]
    rw [itV_false]
    show LF _ _ _ (fun _ => V.t [_, .k (.bool false)]) none
    clear e4
    refine LFx.mk' tt Try.func46 rfl rfl rfl (by kernel_rfl) rfl rfl fun F => ?_
    exact wk trueW trueW trueW
set_option maxHeartbeats 4000000 in
theorem Code_ (s : Shp) (hp : s.path.length < 40000000) (hv : s.value.length < 1073741824) (hkl : s.kids.length < 1073741824) : (itmS s = none → LF Try.prog 16 [shV s] (fun _ => .t [bV [], .k (.int .i64 1)]) none) ∧
  ∀ it, itmS s = some it → LF Try.prog 16 [shV s] (fun _ => .t [bV (enc it), .k (.int .i64 0)]) none := by
 obtain ⟨it', c1, h⟩ := item_ s (by omega) hv hkl
 have hk3 := itC_len it'
 have hrf := itC_refs
 have hr2 : ∀ m, V.refs.go m (shC s) = true := fun m => shC_refs m s
 have hsl := shC_len s
 refine ⟨fun hn => ?_, fun it hi => ?_⟩
 ·rw [hn] at c1
  replace c1 : LF Try.prog 46 [shV s] (fun _ => .t [itV it', .k (.bool false)]) none := c1
  clear h hn
  obtain ⟨k, p, v, ks⟩ := s
  simp only [shV, shC_eq] at c1 ⊢
  refine LFx.mk' tt Try.func16 rfl rfl rfl (by kernel_rfl) rfl rfl fun F => ?_
  exact wk trueW trueW trueW
 ·obtain rfl := h it hi
  have hsz := itmS_size hi
  have c2 := Pw.Encode 90000000 it (by omega) (by omega)
  rw [hi] at c1
  replace c1 : LF Try.prog 46 [shV s] (fun _ => .t [itV it, .k (.bool true)]) none := c1
  clear h hi
  generalize enc it = E at *
  obtain ⟨k, p, v, ks⟩ := s
  simp only [shV, shC_eq] at c1 ⊢
  refine LFx.mk' tt Try.func16 rfl rfl rfl (by kernel_rfl) rfl rfl fun F => ?_
  exact wk trueW trueW trueW
end Rw
end Lf
end Go.Proofs.Ytkbimhccaacobaa
