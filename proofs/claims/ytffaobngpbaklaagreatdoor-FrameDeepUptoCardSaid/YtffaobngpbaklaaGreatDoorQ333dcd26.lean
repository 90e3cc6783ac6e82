/- A part of the proof: texts joined. -/
import Derived.Test.YtffaobngpbaklaaGreatDoorQ32769de3
set_option linter.unusedVariables false
set_option linter.unusedSimpArgs false
namespace Go.Proofs.YtffaobngpbaklaaGreatDoor
open Go.RowKit Rg Wm Ar
set_option linter.unusedVariables false
set_option maxRecDepth 100000
namespace Lf
theorem rep_drop {w : World} {g : Gh} {o : Option Nat} {es : List V} {x : Value} (h : Rep w g (.s o es) x) : Rep w g (.s none es) x := by
 cases h with
 | s0 ht => exact .s0 fun r hr => by cases hr
 | se a ht => exact .se a fun r hr => by cases hr
 | s xs hn hm hp hs hx hc ht => exact .s xs hn hm hp hs hx hc fun r hr => by cases hr
namespace Fw
set_option maxHeartbeats 1000000 in
theorem step_end (c inp : List UInt8) (g mg : Nat) (l : List UInt8) (sg : Nat) (st : List Nat) (pc : Nat) (o : List UInt8) (hp : c.length ≤ pc) (hpl : pc < 1000000000) : LM Tryz.prog 44 [.p 1000 0, .i 64 (.a [])] (frM c inp g mg l sg st pc o) fun q m => q = .ret (boV false) ∧ m = frM c inp g mg l sg st pc o := by
 refine LM.enter tt Tryz.func44 rfl rfl rfl (by kernel_rfl) rfl rfl rfl (fun o mo h => by rw [h.2]; rfl) fun F _ => ?_
 exact wk trueW trueW trueW
set_option maxHeartbeats 1000000 in
theorem step_bad (c inp : List UInt8) (g mg : Nat) (l : List UInt8) (sg : Nat) (st : List Nat) (pc : Nat) (o : List UInt8) (e : Int) (hp : pc < c.length) (hcl : c.length < 1000000000) (hck : LM Tryz.prog 60 [.p 1000 0, bK (c.getD pc default), boV true] (frM c inp g mg l sg st pc o) fun q m => q = .pan (fltV e) ∧ m = frM c inp g mg l sg st pc o) : LM Tryz.prog 44 [.p 1000 0, .i 64 (.a [])] (frM c inp g mg l sg st pc o) fun q m => q = .pan (fltV e) ∧ m = frM c inp g mg l sg st pc o := by
 have p1 := hck
 have hp1 : PanIn 5 3 := ⟨trivial⟩
 clear hck
 refine LM.enter tt Tryz.func44 rfl rfl rfl (by kernel_rfl) rfl rfl rfl (fun o mo h => by rw [h.2]; rfl) fun F _ => ?_
 exact wk trueW trueW trueW
set_option maxHeartbeats 1000000 in
theorem step_0 (c inp : List UInt8) (g g2 mg : Nat) (l : List UInt8) (sg : Nat) (st : List Nat) (pc : Nat) (o : List UInt8) (hp : pc < c.length) (hcl : c.length < 1000000000) (hop : (c.getD pc default).toNat = 0) (hck : LM Tryz.prog 60 [.p 1000 0, bK (c.getD pc default), boV true] (frM c inp g mg l sg st pc o) fun q m => q = .ret (.t []) ∧ m = frM c inp g2 mg l sg st pc o) : LM Tryz.prog 44 [.p 1000 0, .i 64 (.a [])] (frM c inp g mg l sg st pc o) fun q m => q = .ret (boV false) ∧ m = frM c inp g2 mg l sg st pc o := by
 have c1 := hck
 have c2 := Cw.Next c pc hp hcl
 clear hck
 refine LM.enter tt Tryz.func44 rfl rfl rfl (by kernel_rfl) rfl rfl rfl (fun o mo h => by rw [h.2]; rfl) fun F _ => ?_
 exact wk trueW trueW trueW
set_option maxHeartbeats 1000000 in
theorem step_91 (c inp : List UInt8) (g g2 mg : Nat) (l : List UInt8) (sg : Nat) (st : List Nat) (pc : Nat) (o : List UInt8) (hp : pc < c.length) (hcl : c.length < 1000000000) (hop : (c.getD pc default).toNat = 91) (hck : LM Tryz.prog 60 [.p 1000 0, bK (c.getD pc default), boV true] (frM c inp g mg l sg st pc o) fun q m => q = .ret (.t []) ∧ m = frM c inp g2 mg l sg st pc o) : LM Tryz.prog 44 [.p 1000 0, .i 64 (.a [])] (frM c inp g mg l sg st pc o) fun q m => q = .ret (boV true) ∧ m = frM c inp g2 mg l sg st (Co.nxt c pc) o := by
 have c1 := hck
 have c2 := Cw.Next c pc hp hcl
 clear hck
 refine LM.enter tt Tryz.func44 rfl rfl rfl (by kernel_rfl) rfl rfl rfl (fun o mo h => by rw [h.2]; rfl) fun F _ => ?_
 exact wk trueW trueW trueW
set_option maxHeartbeats 1000000 in
theorem step_242 (c inp : List UInt8) (g g2 mg : Nat) (l : List UInt8) (sg : Nat) (r : List Nat) (pc : Nat) (o : List UInt8) (a n : Nat) (hp : pc < c.length) (hcl : c.length < 1000000000) (hop : (c.getD pc default).toNat = 242) (hck : LM Tryz.prog 60 [.p 1000 0, bK (c.getD pc default), boV true] (frM c inp g mg l sg (a :: n :: r) pc o) fun q m => q = .ret (.t []) ∧ m = frM c inp g2 mg l sg (a :: n :: r) pc o) (z mg2 : Nat) (l2 : List UInt8) (hs : r.length ≤ 900) (hL : l.length ≤ 4096) (hg : g2 < 18446744073709551616) (h0 : 0 < n % M256) (h : My.need l.length (a % M256) (n % M256) = some z) (hgr : My.grow ⟨mg, l⟩ z = ⟨mg2, l2⟩) (hl2 : a % M256 + n % M256 ≤ l2.length ∧ l2.length ≤ 4096) (hc : (My.price l.length z) ≤ g2) : LM Tryz.prog 44 [.p 1000 0, .i 64 (.a [])] (frM c inp g mg l sg (a :: n :: r) pc o) fun q m => q = .ret (boV false) ∧ m = frM c inp (g2 - (My.price l.length z)) mg2 l2 sg r pc (My.view l2 (a % M256) (n % M256)) := by
 have hq0 := limbs_len (a)
 have hq1 := limbs_len (n)
 have c1 := hck
 have c2 := Cw.Next c pc hp hcl
 have c3 := Pop c inp g2 mg l sg (n :: r) pc o a (by simp only [List.length_cons]; omega)
 have c4 := Pop c inp g2 mg l sg r pc o n (by omega)
 have hstp : StopAt 19 := ⟨trivial⟩
 have c5 := TouchN_ok c inp g2 mg l sg r pc o a n z mg2 l2 hL hg h0 h hgr hl2 hc
 unfold My.view
 have hvl := view_len (l := l2) hl2.1
 unfold My.view at hvl
 obtain ⟨hl2, hl3⟩ := hl2
 generalize (My.price l.length z) = cost at *
 clear h hgr hck
 refine LM.enter tt Tryz.func44 rfl rfl rfl (by kernel_rfl) rfl rfl rfl (fun o mo h => by rw [h.2]; rfl) fun F _ => ?_
 refine wk ?_ trueW trueW
 refine DR.abW tt rfl rfl rfl rfl rfl rfl rfl rfl rfl rfl rfl rfl rfl rfl cut_mapW sz' (by rw [List.length_map]; omega) (by intro e he; cases he) (List.nil_append _) ((List.length_map _).trans hvl) (by omega) (by simp only []; omega) rfl ?_
 refine wk ?_ trueW trueW
 refine Stp.mk (LC.cellweak (i := 1000) 7 (.s none (((l2.drop (a % M256)).take (n % M256)).map bK)) rfl rfl rfl (fun _ _ _ h => rep_drop h) rfl ?_)
 clear hstp
 exact wk trueW trueW trueW
set_option maxHeartbeats 1000000 in
theorem step_242z (c inp : List UInt8) (g g2 mg : Nat) (l : List UInt8) (sg : Nat) (r : List Nat) (pc : Nat) (o : List UInt8) (a n : Nat) (hp : pc < c.length) (hcl : c.length < 1000000000) (hop : (c.getD pc default).toNat = 242) (hck : LM Tryz.prog 60 [.p 1000 0, bK (c.getD pc default), boV true] (frM c inp g mg l sg (a :: n :: r) pc o) fun q m => q = .ret (.t []) ∧ m = frM c inp g2 mg l sg (a :: n :: r) pc o) (hs : r.length ≤ 900) (hL : l.length ≤ 4096) (hg : g2 < 18446744073709551616) (h0 : n % M256 = 0) : LM Tryz.prog 44 [.p 1000 0, .i 64 (.a [])] (frM c inp g mg l sg (a :: n :: r) pc o) fun q m => q = .ret (boV false) ∧ m = frM c inp g2 mg l sg r pc [] := by
 have hq0 := limbs_len (a)
 have hq1 := limbs_len (n)
 have c1 := hck
 have c2 := Cw.Next c pc hp hcl
 have c3 := Pop c inp g2 mg l sg (n :: r) pc o a (by simp only [List.length_cons]; omega)
 have c4 := Pop c inp g2 mg l sg r pc o n (by omega)
 have hstp : StopAt 19 := ⟨trivial⟩
 have c5 := TouchN_z c inp g2 mg l sg r pc o a n hL hg h0
 clear h0 hck
 refine LM.enter tt Tryz.func44 rfl rfl rfl (by kernel_rfl) rfl rfl rfl (fun o mo h => by rw [h.2]; rfl) fun F _ => ?_
 refine wk ?_ trueW trueW
 refine DR.abN tt rfl rfl rfl rfl rfl rfl rfl rfl rfl rfl rfl rfl rfl (by intro e he; cases he) (by decide) (by decide) rfl ?_
 refine wk ?_ trueW trueW
 refine Stp.mk (LC.cellweak (i := 1000) 7 (.s none []) rfl rfl rfl (fun _ _ _ h => rep_drop h) rfl ?_)
 clear hstp
 exact wk trueW trueW trueW
set_option maxHeartbeats 1000000 in
theorem step_242much (c inp : List UInt8) (g g2 mg : Nat) (l : List UInt8) (sg : Nat) (r : List Nat) (pc : Nat) (o : List UInt8) (a n : Nat) (hp : pc < c.length) (hcl : c.length < 1000000000) (hop : (c.getD pc default).toNat = 242) (hck : LM Tryz.prog 60 [.p 1000 0, bK (c.getD pc default), boV true] (frM c inp g mg l sg (a :: n :: r) pc o) fun q m => q = .ret (.t []) ∧ m = frM c inp g2 mg l sg (a :: n :: r) pc o) (hs : r.length ≤ 900) (hL : l.length ≤ 4096) (hg : g2 < 18446744073709551616) (h : My.need l.length (a % M256) (n % M256) = none) : LM Tryz.prog 44 [.p 1000 0, .i 64 (.a [])] (frM c inp g mg l sg (a :: n :: r) pc o) fun q m => q = .pan (fltV 6) ∧ m = frM c inp g2 mg l sg r pc o := by
 have hq0 := limbs_len (a)
 have hq1 := limbs_len (n)
 have c1 := hck
 have c2 := Cw.Next c pc hp hcl
 have c3 := Pop c inp g2 mg l sg (n :: r) pc o a (by simp only [List.length_cons]; omega)
 have c4 := Pop c inp g2 mg l sg r pc o n (by omega)
 have hstp : StopAt 19 := ⟨trivial⟩
 have p1 := TouchN_much c inp g2 mg l sg r pc o a n hL h
 have hp1 : PanIn 18 5 := ⟨trivial⟩
 clear h hck
 refine LM.enter tt Tryz.func44 rfl rfl rfl (by kernel_rfl) rfl rfl rfl (fun o mo h => by rw [h.2]; rfl) fun F _ => ?_
 exact wk trueW trueW trueW
set_option maxHeartbeats 1000000 in
theorem step_242gas (c inp : List UInt8) (g g2 mg : Nat) (l : List UInt8) (sg : Nat) (r : List Nat) (pc : Nat) (o : List UInt8) (a n : Nat) (hp : pc < c.length) (hcl : c.length < 1000000000) (hop : (c.getD pc default).toNat = 242) (hck : LM Tryz.prog 60 [.p 1000 0, bK (c.getD pc default), boV true] (frM c inp g mg l sg (a :: n :: r) pc o) fun q m => q = .ret (.t []) ∧ m = frM c inp g2 mg l sg (a :: n :: r) pc o) (z : Nat) (hs : r.length ≤ 900) (hL : l.length ≤ 4096) (hg : g2 < 18446744073709551616) (h0 : 0 < n % M256) (h : My.need l.length (a % M256) (n % M256) = some z) (hc : g2 < (My.price l.length z)) : LM Tryz.prog 44 [.p 1000 0, .i 64 (.a [])] (frM c inp g mg l sg (a :: n :: r) pc o) fun q m => q = .pan (fltV 10) ∧ m = frM c inp g2 mg l sg r pc o := by
 have hq0 := limbs_len (a)
 have hq1 := limbs_len (n)
 have c1 := hck
 have c2 := Cw.Next c pc hp hcl
 have c3 := Pop c inp g2 mg l sg (n :: r) pc o a (by simp only [List.length_cons]; omega)
 have c4 := Pop c inp g2 mg l sg r pc o n (by omega)
 have hstp : StopAt 19 := ⟨trivial⟩
 have p1 := TouchN_gas c inp g2 mg l sg r pc o a n z hL h0 h hc
 have hp1 : PanIn 18 5 := ⟨trivial⟩
 clear h hck
 refine LM.enter tt Tryz.func44 rfl rfl rfl (by kernel_rfl) rfl rfl rfl (fun o mo h => by rw [h.2]; rfl) fun F _ => ?_
 exact wk trueW trueW trueW
set_option maxHeartbeats 1000000 in
theorem step_253 (c inp : List UInt8) (g g2 mg : Nat) (l : List UInt8) (sg : Nat) (r : List Nat) (pc : Nat) (o : List UInt8) (a n : Nat) (hp : pc < c.length) (hcl : c.length < 1000000000) (hop : (c.getD pc default).toNat = 253) (hck : LM Tryz.prog 60 [.p 1000 0, bK (c.getD pc default), boV true] (frM c inp g mg l sg (a :: n :: r) pc o) fun q m => q = .ret (.t []) ∧ m = frM c inp g2 mg l sg (a :: n :: r) pc o) (z mg2 : Nat) (l2 : List UInt8) (hs : r.length ≤ 900) (hL : l.length ≤ 4096) (hg : g2 < 18446744073709551616) (h0 : 0 < n % M256) (h : My.need l.length (a % M256) (n % M256) = some z) (hgr : My.grow ⟨mg, l⟩ z = ⟨mg2, l2⟩) (hl2 : a % M256 + n % M256 ≤ l2.length ∧ l2.length ≤ 4096) (hc : (My.price l.length z) ≤ g2) : LM Tryz.prog 44 [.p 1000 0, .i 64 (.a [])] (frM c inp g mg l sg (a :: n :: r) pc o) fun q m => q = .pan (fltV 14) ∧ m = frM c inp (g2 - (My.price l.length z)) mg2 l2 sg r pc (My.view l2 (a % M256) (n % M256)) := by
 have hq0 := limbs_len (a)
 have hq1 := limbs_len (n)
 have c1 := hck
 have c2 := Cw.Next c pc hp hcl
 have c3 := Pop c inp g2 mg l sg (n :: r) pc o a (by simp only [List.length_cons]; omega)
 have c4 := Pop c inp g2 mg l sg r pc o n (by omega)
 have hstp : StopAt 19 := ⟨trivial⟩
 have c5 := TouchN_ok c inp g2 mg l sg r pc o a n z mg2 l2 hL hg h0 h hgr hl2 hc
 have p1 := Fail 14
 have hp1 : PanIn 20 0 := ⟨trivial⟩
 unfold My.view
 have hvl := view_len (l := l2) hl2.1
 unfold My.view at hvl
 obtain ⟨hl2, hl3⟩ := hl2
 generalize (My.price l.length z) = cost at *
 clear h hgr hck
 refine LM.enter tt Tryz.func44 rfl rfl rfl (by kernel_rfl) rfl rfl rfl (fun o mo h => by rw [h.2]; rfl) fun F _ => ?_
 refine wk ?_ trueW trueW
 refine DR.abW tt rfl rfl rfl rfl rfl rfl rfl rfl rfl rfl rfl rfl rfl rfl cut_mapW sz' (by rw [List.length_map]; omega) (by intro e he; cases he) (List.nil_append _) ((List.length_map _).trans hvl) (by omega) (by simp only []; omega) rfl ?_
 refine wk ?_ trueW trueW
 refine Stp.mk (LC.cellweak (i := 1000) 7 (.s none (((l2.drop (a % M256)).take (n % M256)).map bK)) rfl rfl rfl (fun _ _ _ h => rep_drop h) rfl ?_)
 clear hstp
 exact wk trueW trueW trueW
set_option maxHeartbeats 1000000 in
theorem step_253z (c inp : List UInt8) (g g2 mg : Nat) (l : List UInt8) (sg : Nat) (r : List Nat) (pc : Nat) (o : List UInt8) (a n : Nat) (hp : pc < c.length) (hcl : c.length < 1000000000) (hop : (c.getD pc default).toNat = 253) (hck : LM Tryz.prog 60 [.p 1000 0, bK (c.getD pc default), boV true] (frM c inp g mg l sg (a :: n :: r) pc o) fun q m => q = .ret (.t []) ∧ m = frM c inp g2 mg l sg (a :: n :: r) pc o) (hs : r.length ≤ 900) (hL : l.length ≤ 4096) (hg : g2 < 18446744073709551616) (h0 : n % M256 = 0) : LM Tryz.prog 44 [.p 1000 0, .i 64 (.a [])] (frM c inp g mg l sg (a :: n :: r) pc o) fun q m => q = .pan (fltV 14) ∧ m = frM c inp g2 mg l sg r pc [] := by
 have hq0 := limbs_len (a)
 have hq1 := limbs_len (n)
 have c1 := hck
 have c2 := Cw.Next c pc hp hcl
 have c3 := Pop c inp g2 mg l sg (n :: r) pc o a (by simp only [List.length_cons]; omega)
 have c4 := Pop c inp g2 mg l sg r pc o n (by omega)
 have hstp : StopAt 19 := ⟨trivial⟩
 have c5 := TouchN_z c inp g2 mg l sg r pc o a n hL hg h0
 have p1 := Fail 14
 have hp1 : PanIn 20 0 := ⟨trivial⟩
 clear h0 hck
 refine LM.enter tt Tryz.func44 rfl rfl rfl (by kernel_rfl) rfl rfl rfl (fun o mo h => by rw [h.2]; rfl) fun F _ => ?_
 refine wk ?_ trueW trueW
 refine DR.abN tt rfl rfl rfl rfl rfl rfl rfl rfl rfl rfl rfl rfl rfl (by intro e he; cases he) (by decide) (by decide) rfl ?_
 refine wk ?_ trueW trueW
 refine Stp.mk (LC.cellweak (i := 1000) 7 (.s none []) rfl rfl rfl (fun _ _ _ h => rep_drop h) rfl ?_)
 clear hstp
 exact wk trueW trueW trueW
set_option maxHeartbeats 1000000 in
theorem step_253much (c inp : List UInt8) (g g2 mg : Nat) (l : List UInt8) (sg : Nat) (r : List Nat) (pc : Nat) (o : List UInt8) (a n : Nat) (hp : pc < c.length) (hcl : c.length < 1000000000) (hop : (c.getD pc default).toNat = 253) (hck : LM Tryz.prog 60 [.p 1000 0, bK (c.getD pc default), boV true] (frM c inp g mg l sg (a :: n :: r) pc o) fun q m => q = .ret (.t []) ∧ m = frM c inp g2 mg l sg (a :: n :: r) pc o) (hs : r.length ≤ 900) (hL : l.length ≤ 4096) (hg : g2 < 18446744073709551616) (h : My.need l.length (a % M256) (n % M256) = none) : LM Tryz.prog 44 [.p 1000 0, .i 64 (.a [])] (frM c inp g mg l sg (a :: n :: r) pc o) fun q m => q = .pan (fltV 6) ∧ m = frM c inp g2 mg l sg r pc o := by
 have hq0 := limbs_len (a)
 have hq1 := limbs_len (n)
 have c1 := hck
 have c2 := Cw.Next c pc hp hcl
 have c3 := Pop c inp g2 mg l sg (n :: r) pc o a (by simp only [List.length_cons]; omega)
 have c4 := Pop c inp g2 mg l sg r pc o n (by omega)
 have hstp : StopAt 19 := ⟨trivial⟩
 have p1 := TouchN_much c inp g2 mg l sg r pc o a n hL h
 have hp1 : PanIn 18 5 := ⟨trivial⟩
 clear h hck
 refine LM.enter tt Tryz.func44 rfl rfl rfl (by kernel_rfl) rfl rfl rfl (fun o mo h => by rw [h.2]; rfl) fun F _ => ?_
 exact wk trueW trueW trueW
set_option maxHeartbeats 1000000 in
theorem step_253gas (c inp : List UInt8) (g g2 mg : Nat) (l : List UInt8) (sg : Nat) (r : List Nat) (pc : Nat) (o : List UInt8) (a n : Nat) (hp : pc < c.length) (hcl : c.length < 1000000000) (hop : (c.getD pc default).toNat = 253) (hck : LM Tryz.prog 60 [.p 1000 0, bK (c.getD pc default), boV true] (frM c inp g mg l sg (a :: n :: r) pc o) fun q m => q = .ret (.t []) ∧ m = frM c inp g2 mg l sg (a :: n :: r) pc o) (z : Nat) (hs : r.length ≤ 900) (hL : l.length ≤ 4096) (hg : g2 < 18446744073709551616) (h0 : 0 < n % M256) (h : My.need l.length (a % M256) (n % M256) = some z) (hc : g2 < (My.price l.length z)) : LM Tryz.prog 44 [.p 1000 0, .i 64 (.a [])] (frM c inp g mg l sg (a :: n :: r) pc o) fun q m => q = .pan (fltV 10) ∧ m = frM c inp g2 mg l sg r pc o := by
 have hq0 := limbs_len (a)
 have hq1 := limbs_len (n)
 have c1 := hck
 have c2 := Cw.Next c pc hp hcl
 have c3 := Pop c inp g2 mg l sg (n :: r) pc o a (by simp only [List.length_cons]; omega)
 have c4 := Pop c inp g2 mg l sg r pc o n (by omega)
 have hstp : StopAt 19 := ⟨trivial⟩
 have p1 := TouchN_gas c inp g2 mg l sg r pc o a n z hL h0 h hc
 have hp1 : PanIn 18 5 := ⟨trivial⟩
 clear h hck
 refine LM.enter tt Tryz.func44 rfl rfl rfl (by kernel_rfl) rfl rfl rfl (fun o mo h => by rw [h.2]; rfl) fun F _ => ?_
 exact wk trueW trueW trueW
set_option maxHeartbeats 1000000 in
theorem step_86ok (c inp : List UInt8) (g g2 mg : Nat) (l : List UInt8) (sg : Nat) (r : List Nat) (pc : Nat) (o : List UInt8) (a : Nat) (hp : pc < c.length) (hcl : c.length < 1000000000) (hs : r.length ≤ 900) (hop : (c.getD pc default).toNat = 86) (hck : LM Tryz.prog 60 [.p 1000 0, bK (c.getD pc default), boV true] (frM c inp g mg l sg (a :: r) pc o) fun q m => q = .ret (.t []) ∧ m = frM c inp g2 mg l sg (a :: r) pc o) (h : a % M256 ∈ Co.lands c) : LM Tryz.prog 44 [.p 1000 0, .i 64 (.a [])] (frM c inp g mg l sg (a :: r) pc o) fun q m => q = .ret (boV true) ∧ m = frM c inp g2 mg l sg r (a % M256) o := by
 have hq0 := limbs_len (a)
 have c1 := hck
 have c2 := Cw.Next c pc hp hcl
 have c3 := Pop c inp g2 mg l sg r pc o a (by omega)
 have c6 := jump_ok c inp g2 mg l sg r pc o a (by omega) h
 clear h hck
 refine LM.enter tt Tryz.func44 rfl rfl rfl (by kernel_rfl) rfl rfl rfl (fun o mo h => by rw [h.2]; rfl) fun F _ => ?_
 exact wk trueW trueW trueW
set_option maxHeartbeats 1000000 in
theorem step_87ok (c inp : List UInt8) (g g2 mg : Nat) (l : List UInt8) (sg : Nat) (r : List Nat) (pc : Nat) (o : List UInt8) (a : Nat) (hp : pc < c.length) (hcl : c.length < 1000000000) (hs : r.length ≤ 900) (b : Nat) (hop : (c.getD pc default).toNat = 87) (hck : LM Tryz.prog 60 [.p 1000 0, bK (c.getD pc default), boV true] (frM c inp g mg l sg (a :: b :: r) pc o) fun q m => q = .ret (.t []) ∧ m = frM c inp g2 mg l sg (a :: b :: r) pc o) (hb : ¬ b % M256 = 0) (h : a % M256 ∈ Co.lands c) : LM Tryz.prog 44 [.p 1000 0, .i 64 (.a [])] (frM c inp g mg l sg (a :: b :: r) pc o) fun q m => q = .ret (boV true) ∧ m = frM c inp g2 mg l sg r (a % M256) o := by
 have hq0 := limbs_len (a)
 have hq1 := limbs_len (b)
 have c1 := hck
 have c2 := Cw.Next c pc hp hcl
 have c3 := Pop c inp g2 mg l sg (b :: r) pc o a (by simp only [List.length_cons]; omega)
 have c4 := Pop c inp g2 mg l sg r pc o b (by omega)
 have c6 := jump_ok c inp g2 mg l sg r pc o a (by omega) h
 have hz : ¬ limbs b = List.replicate 4 0 := fun k => hb (limbs_zero.1 k)
 clear h hck hb
 refine LM.enter tt Tryz.func44 rfl rfl rfl (by kernel_rfl) rfl rfl rfl (fun o mo h => by rw [h.2]; rfl) fun F _ => ?_
 exact wk trueW trueW trueW
set_option maxHeartbeats 1000000 in
theorem step_86no (c inp : List UInt8) (g g2 mg : Nat) (l : List UInt8) (sg : Nat) (r : List Nat) (pc : Nat) (o : List UInt8) (a : Nat) (hp : pc < c.length) (hcl : c.length < 1000000000) (hs : r.length ≤ 900) (hop : (c.getD pc default).toNat = 86) (hck : LM Tryz.prog 60 [.p 1000 0, bK (c.getD pc default), boV true] (frM c inp g mg l sg (a :: r) pc o) fun q m => q = .ret (.t []) ∧ m = frM c inp g2 mg l sg (a :: r) pc o) (h : ¬ a % M256 ∈ Co.lands c) : LM Tryz.prog 44 [.p 1000 0, .i 64 (.a [])] (frM c inp g mg l sg (a :: r) pc o) fun q m => q = .pan (fltV 8) ∧ m = frM c inp g2 mg l sg r pc o := by
 have hq0 := limbs_len (a)
 have c1 := hck
 have c2 := Cw.Next c pc hp hcl
 have c3 := Pop c inp g2 mg l sg r pc o a (by omega)
 have p1 := jump_no c inp g2 mg l sg r pc o a (by omega) h
 have hp1 : PanIn 23 3 := ⟨trivial⟩
 clear h hck
 refine LM.enter tt Tryz.func44 rfl rfl rfl (by kernel_rfl) rfl rfl rfl (fun o mo h => by rw [h.2]; rfl) fun F _ => ?_
 exact wk trueW trueW trueW
set_option maxHeartbeats 1000000 in
theorem step_87no (c inp : List UInt8) (g g2 mg : Nat) (l : List UInt8) (sg : Nat) (r : List Nat) (pc : Nat) (o : List UInt8) (a : Nat) (hp : pc < c.length) (hcl : c.length < 1000000000) (hs : r.length ≤ 900) (b : Nat) (hop : (c.getD pc default).toNat = 87) (hck : LM Tryz.prog 60 [.p 1000 0, bK (c.getD pc default), boV true] (frM c inp g mg l sg (a :: b :: r) pc o) fun q m => q = .ret (.t []) ∧ m = frM c inp g2 mg l sg (a :: b :: r) pc o) (hb : ¬ b % M256 = 0) (h : ¬ a % M256 ∈ Co.lands c) : LM Tryz.prog 44 [.p 1000 0, .i 64 (.a [])] (frM c inp g mg l sg (a :: b :: r) pc o) fun q m => q = .pan (fltV 8) ∧ m = frM c inp g2 mg l sg r pc o := by
 have hq0 := limbs_len (a)
 have hq1 := limbs_len (b)
 have c1 := hck
 have c2 := Cw.Next c pc hp hcl
 have c3 := Pop c inp g2 mg l sg (b :: r) pc o a (by simp only [List.length_cons]; omega)
 have c4 := Pop c inp g2 mg l sg r pc o b (by omega)
 have p1 := jump_no c inp g2 mg l sg r pc o a (by omega) h
 have hp1 : PanIn 28 2 := ⟨trivial⟩
 have hz : ¬ limbs b = List.replicate 4 0 := fun k => hb (limbs_zero.1 k)
 clear h hck hb
 refine LM.enter tt Tryz.func44 rfl rfl rfl (by kernel_rfl) rfl rfl rfl (fun o mo h => by rw [h.2]; rfl) fun F _ => ?_
 exact wk trueW trueW trueW
set_option maxHeartbeats 1000000 in
theorem step_87z (c inp : List UInt8) (g g2 mg : Nat) (l : List UInt8) (sg : Nat) (r : List Nat) (pc : Nat) (o : List UInt8) (a : Nat) (hp : pc < c.length) (hcl : c.length < 1000000000) (hs : r.length ≤ 900) (b : Nat) (hop : (c.getD pc default).toNat = 87) (hck : LM Tryz.prog 60 [.p 1000 0, bK (c.getD pc default), boV true] (frM c inp g mg l sg (a :: b :: r) pc o) fun q m => q = .ret (.t []) ∧ m = frM c inp g2 mg l sg (a :: b :: r) pc o) (hb : b % M256 = 0) : LM Tryz.prog 44 [.p 1000 0, .i 64 (.a [])] (frM c inp g mg l sg (a :: b :: r) pc o) fun q m => q = .ret (boV true) ∧ m = frM c inp g2 mg l sg r (Co.nxt c pc) o := by
 have hq0 := limbs_len (a)
 have hq1 := limbs_len (b)
 have c1 := hck
 have c2 := Cw.Next c pc hp hcl
 have c3 := Pop c inp g2 mg l sg (b :: r) pc o a (by simp only [List.length_cons]; omega)
 have c4 := Pop c inp g2 mg l sg r pc o b (by omega)
 have hz : limbs b = List.replicate 4 0 := limbs_zero.2 hb
 have hnn : ¬ ¬ limbs b = List.replicate 4 0 := fun k => k hz
 clear hck hb
 refine LM.enter tt Tryz.func44 rfl rfl rfl (by kernel_rfl) rfl rfl rfl (fun o mo h => by rw [h.2]; rfl) fun F _ => ?_
 exact wk trueW trueW trueW
set_option maxHeartbeats 1000000 in
theorem step_push (c inp : List UInt8) (g g2 mg : Nat) (l : List UInt8) (sg : Nat) (st : List Nat) (pc : Nat) (o : List UInt8) (hp : pc < c.length) (hcl : c.length < 1000000000) (hop : 96 ≤ (c.getD pc default).toNat) (hop2 : (c.getD pc default).toNat < 128) (hck : LM Tryz.prog 60 [.p 1000 0, bK (c.getD pc default), boV true] (frM c inp g mg l sg st pc o) fun q m => q = .ret (.t []) ∧ m = frM c inp g2 mg l sg st pc o) (hs : st.length ≤ 1000) : LM Tryz.prog 44 [.p 1000 0, .i 64 (.a [])] (frM c inp g mg l sg st pc o) fun q m => q = .ret (boV true) ∧ m = frM c inp g2 mg l (sg + 1) (Ps.beN (Fm.cut (c.drop (pc + 1)) 0 ((c.getD pc default).toNat - 95)) :: st) (Co.nxt c pc) o := by
 have c1 := hck
 have c2 := Cw.Next c pc hp hcl
 have e : (c.getD pc default).toNat - 95 = (c.getD pc default).toNat - 96 + 1 := by omega
 rw [e]
 have c3 := Cut (c.drop (pc + 1)) 0 ((c.getD pc default).toNat - 96 + 1) (by rw [List.length_drop]; omega) (by omega)
 rw [m0] at c3
 simp only [wV, limbs0, List.map_cons, List.map_nil] at c3
 have hkl := Fm.cut_len (c.drop (pc + 1)) 0 ((c.getD pc default).toNat - 96 + 1)
 have c4 := Wo.Read (Fm.cut (c.drop (pc + 1)) 0 ((c.getD pc default).toNat - 96 + 1)) (by omega)
 have c5 := Push c inp g2 mg l sg st pc o (Ps.beN (Fm.cut (c.drop (pc + 1)) 0 ((c.getD pc default).toNat - 96 + 1))) (by omega)
 have hq := limbs_len (Ps.beN (Fm.cut (c.drop (pc + 1)) 0 ((c.getD pc default).toNat - 96 + 1)))
 have hw2 : IntKind.u8.wrap (((c.getD pc default).toNat : Int) - 96) = (((c.getD pc default).toNat - 96 : Nat) : Int) := by rw [wrap_u8 (by omega)]; omega
 have hlm1 : ((c.drop (pc + 1)).map bK).length = c.length - (pc + 1) := by rw [List.length_map, List.length_drop]
 generalize Fm.cut (c.drop (pc + 1)) 0 ((c.getD pc default).toNat - 96 + 1) = S at *
 clear hck e
 refine LM.enter tt Tryz.func44 rfl rfl rfl (by kernel_rfl) rfl rfl rfl (fun o mo h => by rw [h.2]; rfl) fun F _ => ?_
 exact wk trueW trueW trueW
set_option maxHeartbeats 1000000 in
theorem step_reckon (c inp : List UInt8) (g g2 mg : Nat) (l : List UInt8) (sg : Nat) (st : List Nat) (pc : Nat) (o : List UInt8) (hp : pc < c.length) (hcl : c.length < 1000000000) (hcx : ([0, 242, 253, 86, 87, 91] : List Nat).contains (c.getD pc default).toNat = false) (hnp : ¬ (96 ≤ (c.getD pc default).toNat ∧ (c.getD pc default).toNat < 128)) (hck : LM Tryz.prog 60 [.p 1000 0, bK (c.getD pc default), boV true] (frM c inp g mg l sg st pc o) fun q m => q = .ret (.t []) ∧ m = frM c inp g2 mg l sg st pc o)  (g3 mg3 : Nat) (l3 : List UInt8) (sg3 : Nat) (st3 : List Nat) (hb : LM Tryz.prog 67 [.p 1000 0, bK (c.getD pc default)] (frM c inp g2 mg l sg st pc o) fun q m => q = .ret (boV true) ∧ m = frM c inp g3 mg3 l3 sg3 st3 pc o) : LM Tryz.prog 44 [.p 1000 0, .i 64 (.a [])] (frM c inp g mg l sg st pc o) fun q m => q = .ret (boV true) ∧ m = frM c inp g3 mg3 l3 sg3 st3 (Co.nxt c pc) o := by
 have c1 := hck
 have c2 := Cw.Next c pc hp hcl
 have c3 := hb
 have k0 : NE ((c.getD pc default).toNat : Int) 0 := ne_of (k := 0) hcx (by decide)
 have k242 : NE ((c.getD pc default).toNat : Int) 242 := ne_of (k := 242) hcx (by decide)
 have k253 : NE ((c.getD pc default).toNat : Int) 253 := ne_of (k := 253) hcx (by decide)
 have k86 : NE ((c.getD pc default).toNat : Int) 86 := ne_of (k := 86) hcx (by decide)
 have k87 : NE ((c.getD pc default).toNat : Int) 87 := ne_of (k := 87) hcx (by decide)
 have k91 : NE ((c.getD pc default).toNat : Int) 91 := ne_of (k := 91) hcx (by decide)
 clear hb hck hcx
 rcases Nat.lt_or_ge (c.getD pc default).toNat 96 with h1 | h1
 ·clear hnp
  refine LM.enter tt Tryz.func44 rfl rfl rfl (by kernel_rfl) rfl rfl rfl (fun o mo h => by rw [h.2]; rfl) fun F _ => ?_
  exact wk trueW trueW trueW
 ·have h2 : 128 ≤ (c.getD pc default).toNat := by omega
  clear hnp
  refine LM.enter tt Tryz.func44 rfl rfl rfl (by kernel_rfl) rfl rfl rfl (fun o mo h => by rw [h.2]; rfl) fun F _ => ?_
  exact wk trueW trueW trueW
set_option maxHeartbeats 1000000 in
theorem step_reckon_pan (c inp : List UInt8) (g g2 mg : Nat) (l : List UInt8) (sg : Nat) (st : List Nat) (pc : Nat) (o : List UInt8) (hp : pc < c.length) (hcl : c.length < 1000000000) (hcx : ([0, 242, 253, 86, 87, 91] : List Nat).contains (c.getD pc default).toNat = false) (hnp : ¬ (96 ≤ (c.getD pc default).toNat ∧ (c.getD pc default).toNat < 128)) (hck : LM Tryz.prog 60 [.p 1000 0, bK (c.getD pc default), boV true] (frM c inp g mg l sg st pc o) fun q m => q = .ret (.t []) ∧ m = frM c inp g2 mg l sg st pc o)  (e : Int) (g3 mg3 : Nat) (l3 : List UInt8) (sg3 : Nat) (st3 : List Nat) (hb : LM Tryz.prog 67 [.p 1000 0, bK (c.getD pc default)] (frM c inp g2 mg l sg st pc o) fun q m => q = .pan (fltV e) ∧ m = frM c inp g3 mg3 l3 sg3 st3 pc o) : LM Tryz.prog 44 [.p 1000 0, .i 64 (.a [])] (frM c inp g mg l sg st pc o) fun q m => q = .pan (fltV e) ∧ m = frM c inp g3 mg3 l3 sg3 st3 pc o := by
 have c1 := hck
 have c2 := Cw.Next c pc hp hcl
 have p1 := hb
 have hp1 : PanIn 11 2 := ⟨trivial⟩
 have k0 : NE ((c.getD pc default).toNat : Int) 0 := ne_of (k := 0) hcx (by decide)
 have k242 : NE ((c.getD pc default).toNat : Int) 242 := ne_of (k := 242) hcx (by decide)
 have k253 : NE ((c.getD pc default).toNat : Int) 253 := ne_of (k := 253) hcx (by decide)
 have k86 : NE ((c.getD pc default).toNat : Int) 86 := ne_of (k := 86) hcx (by decide)
 have k87 : NE ((c.getD pc default).toNat : Int) 87 := ne_of (k := 87) hcx (by decide)
 have k91 : NE ((c.getD pc default).toNat : Int) 91 := ne_of (k := 91) hcx (by decide)
 clear hb hck hcx
 rcases Nat.lt_or_ge (c.getD pc default).toNat 96 with h1 | h1
 ·clear hnp
  refine LM.enter tt Tryz.func44 rfl rfl rfl (by kernel_rfl) rfl rfl rfl (fun o mo h => by rw [h.2]; rfl) fun F _ => ?_
  exact wk trueW trueW trueW
 ·have h2 : 128 ≤ (c.getD pc default).toNat := by omega
  clear hnp
  refine LM.enter tt Tryz.func44 rfl rfl rfl (by kernel_rfl) rfl rfl rfl (fun o mo h => by rw [h.2]; rfl) fun F _ => ?_
  exact wk trueW trueW trueW
set_option maxHeartbeats 1000000 in
theorem step_keep (c inp : List UInt8) (g g2 mg : Nat) (l : List UInt8) (sg : Nat) (st : List Nat) (pc : Nat) (o : List UInt8) (hp : pc < c.length) (hcl : c.length < 1000000000) (hcx : ([0, 242, 253, 86, 87, 91] : List Nat).contains (c.getD pc default).toNat = false) (hnp : ¬ (96 ≤ (c.getD pc default).toNat ∧ (c.getD pc default).toNat < 128)) (hck : LM Tryz.prog 60 [.p 1000 0, bK (c.getD pc default), boV true] (frM c inp g mg l sg st pc o) fun q m => q = .ret (.t []) ∧ m = frM c inp g2 mg l sg st pc o) (hr : LM Tryz.prog 67 [.p 1000 0, bK (c.getD pc default)] (frM c inp g2 mg l sg st pc o) fun q m => q = .ret (boV false) ∧ m = frM c inp g2 mg l sg st pc o) (g3 mg3 : Nat) (l3 : List UInt8) (sg3 : Nat) (st3 : List Nat) (hb : LM Tryz.prog 68 [.p 1000 0, bK (c.getD pc default)] (frM c inp g2 mg l sg st pc o) fun q m => q = .ret (boV true) ∧ m = frM c inp g3 mg3 l3 sg3 st3 pc o) : LM Tryz.prog 44 [.p 1000 0, .i 64 (.a [])] (frM c inp g mg l sg st pc o) fun q m => q = .ret (boV true) ∧ m = frM c inp g3 mg3 l3 sg3 st3 (Co.nxt c pc) o := by
 have c1 := hck
 have c2 := Cw.Next c pc hp hcl
 have c3 := hb
 have c4 := hr
 have k0 : NE ((c.getD pc default).toNat : Int) 0 := ne_of (k := 0) hcx (by decide)
 have k242 : NE ((c.getD pc default).toNat : Int) 242 := ne_of (k := 242) hcx (by decide)
 have k253 : NE ((c.getD pc default).toNat : Int) 253 := ne_of (k := 253) hcx (by decide)
 have k86 : NE ((c.getD pc default).toNat : Int) 86 := ne_of (k := 86) hcx (by decide)
 have k87 : NE ((c.getD pc default).toNat : Int) 87 := ne_of (k := 87) hcx (by decide)
 have k91 : NE ((c.getD pc default).toNat : Int) 91 := ne_of (k := 91) hcx (by decide)
 clear hb hck hcx hr
 rcases Nat.lt_or_ge (c.getD pc default).toNat 96 with h1 | h1
 ·clear hnp
  refine LM.enter tt Tryz.func44 rfl rfl rfl (by kernel_rfl) rfl rfl rfl (fun o mo h => by rw [h.2]; rfl) fun F _ => ?_
  exact wk trueW trueW trueW
 ·have h2 : 128 ≤ (c.getD pc default).toNat := by omega
  clear hnp
  refine LM.enter tt Tryz.func44 rfl rfl rfl (by kernel_rfl) rfl rfl rfl (fun o mo h => by rw [h.2]; rfl) fun F _ => ?_
  exact wk trueW trueW trueW
set_option maxHeartbeats 1000000 in
theorem step_keep_pan (c inp : List UInt8) (g g2 mg : Nat) (l : List UInt8) (sg : Nat) (st : List Nat) (pc : Nat) (o : List UInt8) (hp : pc < c.length) (hcl : c.length < 1000000000) (hcx : ([0, 242, 253, 86, 87, 91] : List Nat).contains (c.getD pc default).toNat = false) (hnp : ¬ (96 ≤ (c.getD pc default).toNat ∧ (c.getD pc default).toNat < 128)) (hck : LM Tryz.prog 60 [.p 1000 0, bK (c.getD pc default), boV true] (frM c inp g mg l sg st pc o) fun q m => q = .ret (.t []) ∧ m = frM c inp g2 mg l sg st pc o) (hr : LM Tryz.prog 67 [.p 1000 0, bK (c.getD pc default)] (frM c inp g2 mg l sg st pc o) fun q m => q = .ret (boV false) ∧ m = frM c inp g2 mg l sg st pc o) (e : Int) (g3 mg3 : Nat) (l3 : List UInt8) (sg3 : Nat) (st3 : List Nat) (hb : LM Tryz.prog 68 [.p 1000 0, bK (c.getD pc default)] (frM c inp g2 mg l sg st pc o) fun q m => q = .pan (fltV e) ∧ m = frM c inp g3 mg3 l3 sg3 st3 pc o) : LM Tryz.prog 44 [.p 1000 0, .i 64 (.a [])] (frM c inp g mg l sg st pc o) fun q m => q = .pan (fltV e) ∧ m = frM c inp g3 mg3 l3 sg3 st3 pc o := by
 have c1 := hck
 have c2 := Cw.Next c pc hp hcl
 have p1 := hb
 have c4 := hr
 have hp1 : PanIn 11 7 := ⟨trivial⟩
 have k0 : NE ((c.getD pc default).toNat : Int) 0 := ne_of (k := 0) hcx (by decide)
 have k242 : NE ((c.getD pc default).toNat : Int) 242 := ne_of (k := 242) hcx (by decide)
 have k253 : NE ((c.getD pc default).toNat : Int) 253 := ne_of (k := 253) hcx (by decide)
 have k86 : NE ((c.getD pc default).toNat : Int) 86 := ne_of (k := 86) hcx (by decide)
 have k87 : NE ((c.getD pc default).toNat : Int) 87 := ne_of (k := 87) hcx (by decide)
 have k91 : NE ((c.getD pc default).toNat : Int) 91 := ne_of (k := 91) hcx (by decide)
 clear hb hck hcx hr
 rcases Nat.lt_or_ge (c.getD pc default).toNat 96 with h1 | h1
 ·clear hnp
  refine LM.enter tt Tryz.func44 rfl rfl rfl (by kernel_rfl) rfl rfl rfl (fun o mo h => by rw [h.2]; rfl) fun F _ => ?_
  exact wk trueW trueW trueW
 ·have h2 : 128 ≤ (c.getD pc default).toNat := by omega
  clear hnp
  refine LM.enter tt Tryz.func44 rfl rfl rfl (by kernel_rfl) rfl rfl rfl (fun o mo h => by rw [h.2]; rfl) fun F _ => ?_
  exact wk trueW trueW trueW
set_option maxHeartbeats 1000000 in
theorem step_tell (c inp : List UInt8) (g g2 mg : Nat) (l : List UInt8) (sg : Nat) (st : List Nat) (pc : Nat) (o : List UInt8) (hp : pc < c.length) (hcl : c.length < 1000000000) (hcx : ([0, 242, 253, 86, 87, 91] : List Nat).contains (c.getD pc default).toNat = false) (hnp : ¬ (96 ≤ (c.getD pc default).toNat ∧ (c.getD pc default).toNat < 128)) (hck : LM Tryz.prog 60 [.p 1000 0, bK (c.getD pc default), boV true] (frM c inp g mg l sg st pc o) fun q m => q = .ret (.t []) ∧ m = frM c inp g2 mg l sg st pc o) (hr : LM Tryz.prog 67 [.p 1000 0, bK (c.getD pc default)] (frM c inp g2 mg l sg st pc o) fun q m => q = .ret (boV false) ∧ m = frM c inp g2 mg l sg st pc o) (hk : LM Tryz.prog 68 [.p 1000 0, bK (c.getD pc default)] (frM c inp g2 mg l sg st pc o) fun q m => q = .ret (boV false) ∧ m = frM c inp g2 mg l sg st pc o) (g3 mg3 : Nat) (l3 : List UInt8) (sg3 : Nat) (st3 : List Nat) (hb : LM Tryz.prog 69 [.p 1000 0, bK (c.getD pc default)] (frM c inp g2 mg l sg st pc o) fun q m => q = .ret (boV true) ∧ m = frM c inp g3 mg3 l3 sg3 st3 pc o) : LM Tryz.prog 44 [.p 1000 0, .i 64 (.a [])] (frM c inp g mg l sg st pc o) fun q m => q = .ret (boV true) ∧ m = frM c inp g3 mg3 l3 sg3 st3 (Co.nxt c pc) o := by
 have c1 := hck
 have c2 := Cw.Next c pc hp hcl
 have c3 := hb
 have c4 := hr
 have c5 := hk
 have k0 : NE ((c.getD pc default).toNat : Int) 0 := ne_of (k := 0) hcx (by decide)
 have k242 : NE ((c.getD pc default).toNat : Int) 242 := ne_of (k := 242) hcx (by decide)
 have k253 : NE ((c.getD pc default).toNat : Int) 253 := ne_of (k := 253) hcx (by decide)
 have k86 : NE ((c.getD pc default).toNat : Int) 86 := ne_of (k := 86) hcx (by decide)
 have k87 : NE ((c.getD pc default).toNat : Int) 87 := ne_of (k := 87) hcx (by decide)
 have k91 : NE ((c.getD pc default).toNat : Int) 91 := ne_of (k := 91) hcx (by decide)
 clear hb hck hcx hr hk
 rcases Nat.lt_or_ge (c.getD pc default).toNat 96 with h1 | h1
 ·clear hnp
  refine LM.enter tt Tryz.func44 rfl rfl rfl (by kernel_rfl) rfl rfl rfl (fun o mo h => by rw [h.2]; rfl) fun F _ => ?_
  exact wk trueW trueW trueW
 ·have h2 : 128 ≤ (c.getD pc default).toNat := by omega
  clear hnp
  refine LM.enter tt Tryz.func44 rfl rfl rfl (by kernel_rfl) rfl rfl rfl (fun o mo h => by rw [h.2]; rfl) fun F _ => ?_
  exact wk trueW trueW trueW
end Fw
end Lf
end Go.Proofs.YtffaobngpbaklaaGreatDoor
