/- A part of the proof: texts joined. -/
import Derived.Test.YtkbimhccaacobaaQ23697776
namespace Go.Proofs.Ytkbimhccaacobaa
open Go.RowKit Rg Wm Ar
set_option linter.unusedVariables false
set_option maxRecDepth 100000
namespace Lf
open Tr Ro Pk
theorem loadR_right {n : Nd} (hr : Right n 0) {cs : List (List UInt8)} (hc : ∀ x ∈ cs, ∀ y ∈ cs, sumB x = sumB y → x = y) (hs : ∀ c ∈ cdB n, c ∈ cs) (hl : (cdB n).length ≤ 4096) : loadR (sumB (hcB n)) cs = (ofN n, 0) := by
  have h1 := ld_right sumB sumB_len (by_ := byS sumB cs) n 0 65 0 hr (by omega) (fun _ => rfl) (fun c h => byS_all sumB hc (hs c h)) (by omega) (by have h2 : (cds sumB n).length ≤ 4096 := hl; omega)
  unfold loadR
  rw [show hcode sumB n = hcB n from rfl] at h1
  rw [h1]
  simp only [if_true]
  rw [if_pos (rt_of n 0 hr)]
theorem byS_len (cs : List (List UInt8)) : ∃ B, ∀ h c, byS sumB cs h = some c → c.length ≤ B := ⟨(cs.map List.length).sum, fun h c e => by
  have hm := (byS_spec sumB e).2
  clear e
  induction cs with
  | nil => cases hm
  | cons a r ih =>
    rw [List.map_cons, List.sum_cons]
    rcases List.mem_cons.1 hm with e | e
    · rw [e]; omega
    · have := ih e; omega⟩
theorem loadR_sound {h : List UInt8} {cs : List (List UInt8)} {x : Rn} (e : loadR h cs = (x, 0)) : rt x 0 = true ∧ sumB (hcB (toN x)) = h ∧ (∀ c ∈ cdB (toN x), c ∈ cs) ∧ x.size ≤ 4915200 ∧ (cdB (toN x)).length ≤ 4096 := by
  unfold loadR at e
  split at e
  case isFalse hne => exact absurd (congrArg Prod.snd e) hne
  rename_i hz
  split at e
  case isFalse => cases e
  rename_i hrt
  obtain ⟨rfl, _⟩ := Prod.mk.inj e
  have h0 : ld (byS sumB cs) 65 h 0 0 = ((ld (byS sumB cs) 65 h 0 0).1, 0, (ld (byS sumB cs) 65 h 0 0).2.2) := Prod.ext rfl (Prod.ext hz rfl)
  have h4 : (ld (byS sumB cs) 65 h 0 0).2.2 ≤ 4096 := by
    obtain ⟨B, hB⟩ := byS_len cs
    exact (ld_bound hB 65 h 0 0 (by omega)).2.2
  obtain ⟨_, k1⟩ := ld_spec sumB (fun h c e => byS_spec sumB e) 65 h 0 0 _ _ h0
  obtain ⟨_, k2⟩ := ld_of sumB 65 h 0 0 _ _ h0
  obtain ⟨a1, a2⟩ := k1 0 hrt
  obtain ⟨b1, b2⟩ := k2 0 hrt
  have hR := rt_right _ _ 0 (Nat.le_refl _) hrt
  have hw := wt_cds sumB _ 0 hR
  have hsz : (ld (byS sumB cs) 65 h 0 0).1.size = wt (toN (ld (byS sumB cs) 65 h 0 0).1) := by
    conv => lhs; rw [b1]
    exact size_of _
  refine ⟨hrt, a1, a2, ?_, ?_⟩
  · rw [hsz]; omega
  · show (cds sumB _).length ≤ 4096; omega
def rA : Shp := shpN sumB (.leaf [2] [97])
theorem psA_apart : ∀ x ∈ cdB (ofP psA), ∀ y ∈ cdB (ofP psA), sumB x = sumB y → x = y := by decide +kernel
theorem psA_three : (cdB (ofP psA)).length = 3 := by decide +kernel
theorem psA_last : (cdB (ofP psA)).getD 2 default = hcB (.leaf [2] [97]) := by decide +kernel
theorem rA_read : readS ((cdB (ofP psA)).getD 2 default) = some rA := by
  rw [psA_last]
  exact read_hcode sumB sumB_len (n := .leaf [2] [97]) (d := 3) ⟨⟨by decide, by decide⟩, by decide, by decide⟩
theorem nA_load : loadR (sumB (hcB (ofP psA))) (cdB (ofP psA)) = (nA, 0) := by
  have hR : Right (ofP psA) 0 := by have := rt_right _ _ 0 (Nat.le_refl _) nA_right; rwa [nA_toN] at this
  rw [loadR_right hR psA_apart (fun c h => h) (by rw [psA_three]; omega)]
  unfold nA; rfl
theorem nA_lens : ∀ t ∈ cdB (ofP psA), t.length < 3000000 := by decide +kernel
theorem rA_kind : rA.kind = 1 := rfl
theorem sh_kind {ti : TI} {s : Shp} (hd : ti.d.agg = false) : ti.part (shC s) 0 = some (.k (.int .i64 s.kind)) := by
  rw [shC_eq]
  unfold TI.part
  simp [hd]
namespace Rw
set_option maxHeartbeats 4000000 in
theorem alive8_ : LF Try.prog 15 [] (fun _ => .k (.bool true)) none := by
  have hn := nA_size
  have c1 : LM Try.prog 33 [prsV psA] [] fun o m => o = .ret (.t [rnV nA, erV 0]) ∧ m = [] := by
    rcases Te.Of_ psA (by decide) (fun p hp => by have := psA_ok p hp; exact ⟨by have := this.1; omega, by have := this.2; omega⟩) with ⟨_, h⟩ | ⟨⟨p, hp, h⟩, _⟩
    · rw [show nA = ofN (ofP psA) by unfold nA; rfl]
      exact h
    · exact absurd (psA_ok p hp) h
  have hs : nA.size < 20000000 := by unfold nA; rw [size_of]; exact (by decide : wt (ofP psA) < 20000000)
  have c2 := Codes_ok nA hs nA_right
  have c3 := Root_ok nA hs nA_right
  rw [nA_toN] at c2 c3
  have hlen := psA_three
  have c4 := Load_ (sumB (hcB (ofP psA))) (cdB (ofP psA)) (sumB_len _) (by omega) nA_lens
  rw [nA_load] at c4
  have c5 := (Read_ ((cdB (ofP psA)).getD 2 default) (by rw [psA_last]; decide +kernel)).2 rA rA_read
  have c6 := Te.Right_ nA (by omega)
  rw [nA_right] at c6
  have hsl := sumB_len (hcB (ofP psA))
  have hk4 := rnC_len nA
  have hk5 := shC_len rA
  have hrf : ∀ m : Mem, (∀ x, V.refs.go m (rnC x) = true) ∧ ∀ s, V.refs.go m (shC s) = true := fun m => ⟨rnC_refs m, shC_refs m⟩
  have hkd := nA_kind
  have ld1 := @rn_kind nA
  rw [hkd] at ld1
  have ld2 := @sh_kind
  have hkr := rA_kind
  unfold psA at c1
  simp only [prsV, prV, List.map_cons, List.map_nil, prC_eq] at c1
  generalize nA = T at *
  generalize cdB (ofP psA) = L at *
  generalize sumB (hcB (ofP psA)) = SS at *
  generalize rA = RA at *
  refine LFx.mk' tt Try.func15 rfl rfl rfl (by kernel_rfl) rfl rfl fun F => ?_
  exact wk trueW trueW trueW
end Rw
end Lf
open Go.RowKit Rg Wm Ar
set_option linter.unusedVariables false
set_option maxRecDepth 100000
namespace Lf
open Tr Ro Pk
theorem readS_nil : readS [] = none := by
  unfold readS
  have : dec [] = none := by unfold dec; rw [rd]
  rw [this]
theorem codeS_zero : itmS zeroS = some (tx []) := rfl
theorem neS_f' (a : List UInt8) : arithS .neq ⟨a.toArray⟩ ⟨a.toArray⟩ = some (.bool false) := by
  simp only [arithS, ByteArray.toList_mk]
  simp
theorem enc_tx_len {t : List UInt8} (h : t.length < 2 ^ 60) : (enc (tx t)).length ≤ t.length + 9 := by
  unfold enc
  split
  · omega
  · have := head_len (b := 128) (n := t.length) (by omega)
    rw [List.length_append]; omega
theorem encL_tx_len {l : List (List UInt8)} {m : Nat} (hm : m < 2 ^ 40) (h : ∀ t ∈ l, t.length ≤ m) : (encL (l.map tx)).length ≤ l.length * (m + 9) := by
  induction l with
  | nil => rw [List.map_nil, encL]; exact Nat.zero_le _
  | cons a r ih =>
    rw [List.map_cons, encL, List.length_append, List.length_cons, Nat.succ_mul]
    have h1 := h a (by simp)
    have h2 := ih fun t ht => h t (by simp [ht])
    have h3 := enc_tx_len (t := a) (by omega)
    omega
theorem enc_ls_len {l : List (List UInt8)} {m : Nat} (hm : m < 2 ^ 40) (hl : l.length ≤ 17) (h : ∀ t ∈ l, t.length ≤ m) : (enc (ls (l.map tx))).length ≤ l.length * (m + 9) + 9 := by
  have h1 := encL_tx_len hm h
  have h2 : l.length * (m + 9) ≤ 17 * (m + 9) := Nat.mul_le_mul_right _ hl
  unfold enc
  have := head_len (b := 192) (n := (encL (l.map tx)).length) (by omega)
  rw [List.length_append]; omega
theorem itmS_enc {s : Shp} {it : Itm} (h : itmS s = some it) (hp : s.path.length < 2 ^ 39) : (enc it).length ≤ s.path.length + 20000 := by
  rcases itmS_list h with ⟨_, rfl⟩ | ⟨l, rfl, ⟨k, rfl, c⟩ | ⟨k, rfl, c⟩ | ⟨k, rfl, c⟩⟩
  · have := enc_tx_len (t := []) (by decide)
    rw [List.length_nil] at this; omega
  · have h2 := tag_len (pOf s.path) true
    rw [pOf_len] at h2
    have := enc_ls_len (l := [tag (pOf s.path) true, s.value]) (m := s.path.length / 2 + 1025) (by omega) (by simp) (fun t ht => by
      simp only [List.mem_cons, List.not_mem_nil, or_false] at ht
      rcases ht with rfl | rfl <;> omega)
    rw [show [tag (pOf s.path) true, s.value].length = 2 from rfl] at this
    omega
  · have h2 := tag_len (pOf s.path) false
    rw [pOf_len] at h2
    have := enc_ls_len (l := [tag (pOf s.path) false, s.kids.getD 0 default]) (m := s.path.length / 2 + 1025) (by omega) (by simp) (fun t ht => by
      simp only [List.mem_cons, List.not_mem_nil, or_false] at ht
      rcases ht with rfl | rfl
      · omega
      · rw [c.2.2.2]; omega)
    rw [show [tag (pOf s.path) false, s.kids.getD 0 default].length = 2 from rfl] at this
    omega
  · have := enc_ls_len (l := s.kids ++ [s.value]) (m := 1024) (by omega) (by rw [List.length_append, c.1]; simp) (fun t ht => by
      rcases List.mem_append.1 ht with ht | ht
      · have := List.all_eq_true.1 c.2.2.1 t ht
        unfold sum0 at this
        simp only [Bool.or_eq_true, decide_eq_true_eq] at this
        omega
      · rw [List.mem_singleton] at ht; subst ht; exact c.2.1)
    rw [List.length_append, c.1, List.length_singleton] at this
    omega
namespace Rw
set_option maxHeartbeats 8000000 in
theorem RootBack_in (s : Shp) (code : List UInt8) (hp : s.path.length < 2000000) (hv : s.value.length < 2000000) (hk : s.kids.length < 2000000) (x : List UInt8) (e : Nat) (y : Shp) (f : Nat) (z : List UInt8) (g : Nat) (y2 : Shp) (f2 : Nat) (z2 : List UInt8) (g2 : Nat)
    (c2 : LF Try.prog 16 [shV s] (fun _ => .t [bV x, .k (.int .i64 (e : Int))]) none)
    (c3 : LF Try.prog 17 [bV x] (fun _ => .t [shV y, .k (.int .i64 (f : Int))]) none)
    (c4 : LF Try.prog 16 [shV y] (fun _ => .t [bV z, .k (.int .i64 (g : Int))]) none)
    (c5 : LF Try.prog 17 [bV code] (fun _ => .t [shV y2, .k (.int .i64 (f2 : Int))]) none)
    (c6 : LF Try.prog 16 [shV y2] (fun _ => .t [bV z2, .k (.int .i64 (g2 : Int))]) none)
    (h1 : (e = 0 ∧ f = 0 ∧ g = 0 ∧ z = x ∧ y.kind = s.kind) ∨ (e = 1 ∧ x = [])) (h2 : f2 = 1 ∨ f2 = 0 ∧ g2 = 0 ∧ z2 = code) : LF Try.prog 3 [shV s, bV code] (fun _ => .k (.bool true)) none := by
  have c1 := alive8_
  have hk1 := shC_len s
  have hk2 := shC_len y
  have hk3 := shC_len y2
  have hrf := shC_refs
  have ld1 := @sh_kind
  rcases h1 with ⟨rfl, rfl, rfl, rfl, hkd⟩ | ⟨rfl, rfl⟩
  · have hs := neS_f' z
    rcases h2 with rfl | ⟨rfl, rfl, rfl⟩
    · refine LFx.mk' tt Try.func3 rfl rfl rfl (by kernel_rfl) rfl rfl fun F => ?_
      exact wk trueW trueW trueW
    · have hs2 : arithS .eql ⟨z2.toArray⟩ ⟨z2.toArray⟩ = some (.bool true) := Lf.eqS (decide_eq_true rfl)
      refine LFx.mk' tt Try.func3 rfl rfl rfl (by kernel_rfl) rfl rfl fun F => ?_
      exact wk trueW trueW trueW
  · rcases h2 with rfl | ⟨rfl, rfl, rfl⟩
    · refine LFx.mk' tt Try.func3 rfl rfl rfl (by kernel_rfl) rfl rfl fun F => ?_
      exact wk trueW trueW trueW
    · have hs2 : arithS .eql ⟨z2.toArray⟩ ⟨z2.toArray⟩ = some (.bool true) := Lf.eqS (decide_eq_true rfl)
      refine LFx.mk' tt Try.func3 rfl rfl rfl (by kernel_rfl) rfl rfl fun F => ?_
      exact wk trueW trueW trueW
theorem code_zero : LF Try.prog 16 [shV zeroS] (fun _ => .t [bV (enc (tx [])), .k (.int .i64 0)]) none :=
  (Code_ zeroS (by decide) (by decide) (by decide)).2 _ codeS_zero
theorem RootBack (s : Shp) (code : List UInt8) (hp : s.path.length ≤ 1048576) (hv : s.value.length ≤ 1048576) (hk : s.kids.length ≤ 1048576) (hc : code.length ≤ 1048576) : LF Try.prog 3 [shV s, bV code] (fun _ => .k (.bool true)) none := by
  obtain ⟨a1, a2⟩ := Code_ s (by omega) (by omega) (by omega)
  obtain ⟨b1, b2⟩ := Read_ code (by omega)
  have h2 : ∃ y2 f2 z2 g2, LF Try.prog 17 [bV code] (fun _ => .t [shV y2, .k (.int .i64 ((f2 : Nat) : Int))]) none ∧ LF Try.prog 16 [shV y2] (fun _ => .t [bV z2, .k (.int .i64 ((g2 : Nat) : Int))]) none ∧ (f2 = 1 ∨ f2 = 0 ∧ g2 = 0 ∧ z2 = code) := by
    cases hr : readS code with
    | none => exact ⟨zeroS, 1, _, 0, b1 hr, code_zero, .inl rfl⟩
    | some y =>
      obtain ⟨it, i1, i2, i3⟩ := code_read hr
      obtain ⟨k1, k2, k3, _⟩ := readS_bound hr
      have c := (Code_ y (by omega) (by omega) (by omega)).2 it i1
      rw [i2] at c
      exact ⟨y, 0, code, 0, b2 y hr, c, .inr ⟨rfl, rfl, rfl⟩⟩
  obtain ⟨y2, f2, z2, g2, c5, c6, hh2⟩ := h2
  cases hi : itmS s with
  | none =>
    have c3 := (Read_ [] (by decide)).1 readS_nil
    exact RootBack_in s code (by omega) (by omega) (by omega) [] 1 zeroS 1 (enc (tx [])) 0 y2 f2 z2 g2 (a1 hi) c3 code_zero c5 c6 (.inr ⟨rfl, rfl⟩) hh2
  | some it =>
    have hl := itmS_enc hi (by omega)
    obtain ⟨k1, k2, k3⟩ := shp_itm hi
    have hrd := read_code hi (by omega)
    obtain ⟨n1, n2, n3, _⟩ := readS_bound hrd
    have c3 := (Read_ (enc it) (by omega)).2 _ hrd
    have c4 := (Code_ (normS s) (by omega) (by omega) (by omega)).2 it k2
    exact RootBack_in s code (by omega) (by omega) (by omega) (enc it) 0 (normS s) 0 (enc it) 0 y2 f2 z2 g2 (a2 it hi) c3 c4 c5 c6 (.inl ⟨rfl, rfl, rfl, rfl, k3⟩) hh2
end Rw
end Lf
open Go.RowKit Rg Rp Wm Ar
set_option linter.unusedVariables false
set_option maxRecDepth 100000
namespace Lf
open Tr
theorem neS_t {a b : List UInt8} (h : a ≠ b) : arithS .neq ⟨a.toArray⟩ ⟨b.toArray⟩ = some (.bool true) := by
  simp only [arithS, ByteArray.toList_mk]
  simp [h]
theorem neS_f (a : List UInt8) : arithS .neq ⟨a.toArray⟩ ⟨a.toArray⟩ = some (.bool false) := by
  simp only [arithS, ByteArray.toList_mk]
  simp
namespace Te
end Te
end Lf
namespace Lf
namespace Te
end Te
end Lf
open Go.RowKit Rg
set_option linter.unusedVariables false
set_option maxRecDepth 100000
namespace Lf
abbrev bbV (l : List (List UInt8)) : V := .s none (l.map bV)
namespace Sl6
set_option maxHeartbeats 1000000 in
theorem GrowBB (n : Nat) (hn : n < 1073741824) (k : Nat) : LM Try.prog 56 [.nil, .k (.int .i64 (n : Int))] [] fun o m => o = .ret (.s (some k) []) ∧ m = [(k, .r 22 1 0)] := by
  rcases Nat.eq_zero_or_pos n with h0 | h0
  · subst h0
    refine LM.nilrow _ _ k rfl ?_
    refine LFx.mk' tt Try.func56 rfl rfl rfl (by kernel_rfl) rfl rfl fun F => ?_
    refine wk ?_ trueW trueW
    refine DR.pp rfl rfl (Does.capNil tt rfl rfl rfl rfl rfl) rfl ?_
    exact wk trueW trueW trueW
  · refine LM.row1 (k0 := 22) (fun _ => rfl) ?_ k
    refine LFx.mk' tt Try.func56 rfl rfl rfl (by kernel_rfl) rfl rfl fun F => ?_
    refine wk ?_ trueW trueW
    refine DR.pp rfl rfl (Does.capNil tt rfl rfl rfl rfl rfl) rfl ?_
    refine wk ?_ trueW trueW
    refine DR.pp rfl rfl (Does.capNil tt rfl rfl rfl rfl rfl) rfl ?_
    refine DR.pp rfl rfl (Does.cutNil tt rfl rfl rfl rfl rfl (.some rfl rfl)) rfl ?_
    refine wk ?_ trueW trueW
    refine DR.nn rfl rfl (Does.appMake (n := n) tt rfl rfl rfl rfl rfl rfl rfl rfl rfl rfl h0 (by omega) (by show n * 24 ≤ _; omega)) rfl rfl ?_
    refine wk ?_ trueW trueW
    refine DR.ww rfl rfl (Does.cutW0 tt rfl rfl rfl rfl rfl (.some rfl rfl)) rfl rfl ?_
    exact wk trueW trueW trueW
set_option maxHeartbeats 1000000 in
theorem ConcatBB (ls : List (List (List UInt8))) (h1 : ls.length < 1073741824) (h2 : ls.flatten.length < 1073741824) (k : Nat) : LM Try.prog 26 [.s none (ls.map bbV)] [] fun o m => o = .ret (.s (some k) (ls.flatten.map bV)) ∧ m = [(k, .r 22 1 ls.flatten.length)] := by
  refine LM.row1 (k0 := 24) (fun ρ => by simp [V.ren]) ?_ k
  have c1 := Sl6.GrowBB ls.flatten.length h2 24
  refine LFx.mk' tt Try.func26 rfl rfl rfl (by kernel_rfl) rfl rfl fun F => ?_
  refine wk ?_ trueW trueW
  refine LC.loopN (fun i => [(0, .s none (ls.map bbV)), (2, .nil), (3, .k (.int .i64 (((ls.take i).flatten.length : Nat) : Int))), (9, .s none (ls.map bbV)), (10, .k (.int .i64 ((ls.length : Nat) : Int))), (11, .k (.int .i64 ((i : Nat) : Int)))]) (fun i => []) (fun i => i ≤ ls.length) ((ls.length - ·)) (0) (by omega) ⟨rfl, rfl, rfl, rfl, rfl, rfl, trivial⟩ trivial rfl rfW rfW ?_
  intro i hi
  have q1 := flat_le (ls := ls) (i := i)
  rcases Nat.lt_or_ge i ls.length with h3 | h3
  · have hok : i + 1 ≤ ls.length := h3
    have q2 := flat_takeL h3
    have q3 := flat_le (ls := ls) (i := i + 1)
    refine wk ?_ trueW trueW
    rw [← q2]
    exact wk trueW trueW trueW
  · obtain rfl : i = ls.length := by omega
    rw [List.take_length]
    refine wk ?_ trueW trueW
    refine LC.loopN (fun j => [(2, .nil), (6, .s (some 24) ((ls.take j).flatten.map bV)), (25, .s none (ls.map bbV)), (26, .k (.int .i64 ((ls.length : Nat) : Int))), (27, .k (.int .i64 ((j : Nat) : Int)))]) (fun j => [(24, .r 22 1 (ls.take j).flatten.length)]) (fun j => j ≤ ls.length) ((ls.length - ·)) (0) (by omega) ⟨rfl, rfl, rfl, rfl, rfl, trivial⟩ ⟨rfl, trivial⟩ rfl rfW rfW ?_
    intro j hj
    have q1 := flat_le (ls := ls) (i := j)
    have q0 : ((ls.take j).flatten.map bV).length = (ls.take j).flatten.length := List.length_map _
    rcases Nat.lt_or_ge j ls.length with h4 | h4
    · have hok : j + 1 ≤ ls.length := h4
      have q2 := flat_takeL h4
      have q4 := flat_take h4
      have q3 := flat_le (ls := ls) (i := j + 1)
      refine wk ?_ trueW trueW
      rw [← q4]
      exact wk trueW trueW trueW
    · obtain rfl : j = ls.length := by omega
      rw [List.take_length]
      exact wk trueW trueW trueW
end Sl6
end Lf
end Go.Proofs.Ytkbimhccaacobaa
