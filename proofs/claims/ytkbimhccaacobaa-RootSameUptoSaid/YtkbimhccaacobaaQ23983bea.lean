/- A part of the proof: texts joined. -/
import Derived.Test.YtkbimhccaacobaaQ22a676ed
namespace Go.Proofs.Ytkbimhccaacobaa
open Go.RowKit Rg Wm Ar
set_option linter.unusedVariables false
set_option maxRecDepth 100000
namespace Lf
open Tr Ro Pk
theorem loadR_right {n : Nd} (hr : Right n 0) {cs : List (List UInt8)} (hc : ∀ x ∈ cs, ∀ y ∈ cs, sumB x = sumB y → x = y) (hs : ∀ c ∈ cdB n, c ∈ cs) (hl : (cdB n).length ≤ 4096) : loadR (sumB (hcB n)) cs = (ofN n, 0) := by
  have h1 := ld_right sumB sumB_len (by_ := byS sumB cs) n 0 65 0 hr (by omega) (fun _ => rfl) (fun c h => byS_all sumB hc (hs c h)) (by omega) (by have h2 : (cds sumB n).length ≤ 4096 := hl; omega)
  unfold loadR
  rw [show hcode sumB n = hcB n from rfl] at h1
  rw [h1]
  simp only [if_true]
  rw [if_pos (rt_of n 0 hr)]
def rA : Shp := shpN sumB (.leaf [2] [97])
theorem psA_apart : ∀ x ∈ cdB (ofP psA), ∀ y ∈ cdB (ofP psA), sumB x = sumB y → x = y := by decide +kernel
theorem psA_three : (cdB (ofP psA)).length = 3 := by decide +kernel
theorem psA_last : (cdB (ofP psA)).getD 2 default = hcB (.leaf [2] [97]) := by decide +kernel
theorem rA_read : readS ((cdB (ofP psA)).getD 2 default) = some rA := by
  rw [psA_last]
  exact read_hcode sumB sumB_len (n := .leaf [2] [97]) (d := 3) ⟨⟨by decide, by decide⟩, by decide, by decide⟩
theorem nA_load : loadR (sumB (hcB (ofP psA))) (cdB (ofP psA)) = (nA, 0) := by
  have hR : Right (ofP psA) 0 := by have := rt_right _ _ 0 (Nat.le_refl _) nA_right; rwa [nA_toN] at this
  rw [loadR_right hR psA_apart (fun c h => h) (by rw [psA_three]; omega)]
  unfold nA; rfl
theorem nA_lens : ∀ t ∈ cdB (ofP psA), t.length < 3000000 := by decide +kernel
theorem rA_kind : rA.kind = 1 := rfl
theorem sh_kind {ti : TI} {s : Shp} (hd : ti.d.agg = false) : ti.part (shC s) 0 = some (.k (.int .i64 s.kind)) := by
  rw [shC_eq]
  unfold TI.part
  simp [hd]
namespace Rw
set_option maxHeartbeats 4000000 in
theorem alive8_ : LF Try.prog 15 [] (fun _ => .k (.bool true)) none := by
  have hn := nA_size
  have c1 : LM Try.prog 33 [prsV psA] [] fun o m => o = .ret (.t [rnV nA, erV 0]) ∧ m = [] := by
    rcases Te.Of_ psA (by decide) (fun p hp => by have := psA_ok p hp; exact ⟨by have := this.1; omega, by have := this.2; omega⟩) with ⟨_, h⟩ | ⟨⟨p, hp, h⟩, _⟩
    · rw [show nA = ofN (ofP psA) by unfold nA; rfl]
      exact h
    · exact absurd (psA_ok p hp) h
  have hs : nA.size < 20000000 := by unfold nA; rw [size_of]; exact (by decide : wt (ofP psA) < 20000000)
  have c2 := Codes_ok nA hs nA_right
  have c3 := Root_ok nA hs nA_right
  rw [nA_toN] at c2 c3
  have hlen := psA_three
  have c4 := Load_ (sumB (hcB (ofP psA))) (cdB (ofP psA)) (sumB_len _) (by omega) nA_lens
  rw [nA_load] at c4
  have c5 := (Read_ ((cdB (ofP psA)).getD 2 default) (by rw [psA_last]; decide +kernel)).2 rA rA_read
  have c6 := Te.Right_ nA (by omega)
  rw [nA_right] at c6
  have hsl := sumB_len (hcB (ofP psA))
  have hk4 := rnC_len nA
  have hk5 := shC_len rA
  have hrf : ∀ m : Mem, (∀ x, V.refs.go m (rnC x) = true) ∧ ∀ s, V.refs.go m (shC s) = true := fun m => ⟨rnC_refs m, shC_refs m⟩
  have hkd := nA_kind
  have ld1 := @rn_kind nA
  rw [hkd] at ld1
  have ld2 := @sh_kind
  have hkr := rA_kind
  unfold psA at c1
  simp only [prsV, prV, List.map_cons, List.map_nil, prC_eq] at c1
  generalize nA = T at *
  generalize cdB (ofP psA) = L at *
  generalize sumB (hcB (ofP psA)) = SS at *
  generalize rA = RA at *
  refine LFx.mk' tt Try.func15 rfl rfl rfl (by kernel_rfl) rfl rfl fun F => ?_
  exact wk trueW trueW trueW
end Rw
end Lf
namespace Lf
namespace Rw
end Rw
end Lf
namespace Lf
namespace Te
end Te
end Lf
open Go.RowKit Rg Rp Wm Ar
set_option linter.unusedVariables false
set_option maxRecDepth 100000
namespace Lf
open Tr
theorem pairs_back {n : Nd} (h : Right n 0) : (pairsOf n).map pkP = pairs n [] := by
  unfold pairsOf
  rw [List.map_map]
  conv => rhs; rw [← List.map_id (pairs n [])]
  apply List.map_congr_left
  intro e he
  obtain ⟨q, w⟩ := e
  obtain ⟨r, e1, e2, e3⟩ := (mem_pairs n [] 0 h q w).1 he
  rw [List.nil_append] at e1
  subst e1
  have := get_ends h q (by rw [e2]; exact e3)
  rw [Nat.zero_add] at this
  show (keyP (keyB q), w) = (q, w)
  rw [keyP_B this.1]
theorem pairsOf_len (x : Rn) : (pairsOf (toN x)).length ≤ x.size := by
  unfold pairsOf
  rw [List.length_map]
  exact pairs_size _ x [] (Nat.le_refl _)
namespace Te
end Te
end Lf
namespace Lf
namespace Sl6
end Sl6
end Lf
namespace Lf
namespace Rw
end Rw
end Lf
namespace Lf
namespace Rw
end Rw
end Lf
end Go.Proofs.Ytkbimhccaacobaa
