/- HexOrder: the law's function answers true at every input of bulk at most 1048576, and touches no old memory; from its walk to the given statement. Conditions: the statement's own bound, nothing else. -/
import Derived.Test.YtclkpjefklahfaaProg
import Derived.Shelf.Bits.Mul64
import Derived.Lib.TrimU
import Derived.Laws.RangeString
import Derived.Laws.RangeAny
import Derived.Test.YtclkpjefklahfaaQ2889891
/- The walker: one for all functions of the seat. Contracts lie in the context by the names c1 to c24. -/
namespace Go.Proofs.Ytclkpjefklahfaa
open Go.RowKit Rg
namespace Lf
set_option maxRecDepth 100000 in
theorem wk {G C D B : Prop} (h1 : C) (h2 : D) (h3 : B) (h : Away C → Away D → Away B → G := by intro a1 a2 a3; (repeat' (first | intro _ | (apply DR.ld tt; (case ho => with_reducible exact rfl); (case hg => first | exact rfl | exact gd_y rfl rfl rfl (by assumption)); (case hds => exact rfl); (case hx => first | exact evo_ki | exact evo_kb | exact rfl); (case hm => exact rfl); (case hT => exact rfl); (case hv => (first | exact part_map rfl rfl lz | exact part_whole rfl lz | (apply ld1 <;> first | exact rfl | exact lz) | (apply ld2 <;> first | exact rfl | exact lz) | (apply part_l; (first | exact part_map rfl rfl lz | exact part_whole rfl lz | exact rfl)) | (apply part_r; (case hl => first | exact (List.length_map _).trans (by assumption) | ((try apply (List.length_map _).trans); (repeat apply List.length_set.trans); assumption) | rfl); (case hk => first | exact off_s | exact off_r (by decide) | exact off_r lz); first | (apply part_l; (first | exact part_map rfl rfl lz | exact part_whole rfl lz | exact rfl)) | (apply part_r; (case hl => first | exact (List.length_map _).trans (by assumption) | ((try apply (List.length_map _).trans); (repeat apply List.length_set.trans); assumption) | rfl); (case hk => first | exact off_s | exact off_r (by decide) | exact off_r lz); (first | exact part_map rfl rfl lz | exact part_whole rfl lz | exact rfl)) | (first | exact part_map rfl rfl lz | exact part_whole rfl lz | exact rfl)) | exact rfl)); (case hd => exact rfl)) | (apply DR.pp; (case hg => first | exact rfl | exact gd_y rfl rfl rfl (by assumption)); (case hds => exact rfl); (case h => (first | (apply Does.move; (case ho => with_reducible exact rfl); (case hx => exact rfl)) | (apply Does.assign; (case ho => with_reducible exact rfl); (case hx => exact rfl)) | (apply Does.gB; (case ho => with_reducible exact rfl); (case h => (first | (apply Does.neNil0 tt; (case ho => with_reducible exact rfl); (case hx => first | exact evo_ki | exact evo_kb | exact rfl); (case hT => exact rfl); (case hd => exact rfl)) | (apply Does.neNilI tt; (case ho => with_reducible exact rfl); (case hx => first | exact evo_ki | exact evo_kb | exact rfl); (case hT => exact rfl); (case hd => exact rfl)) | (apply Does.eqNil0 tt; (case ho => with_reducible exact rfl); (case hx => first | exact evo_ki | exact evo_kb | exact rfl); (case hT => exact rfl); (case hd => exact rfl)) | (apply Does.eqNilI tt; (case ho => with_reducible exact rfl); (case hx => first | exact evo_ki | exact evo_kb | exact rfl); (case hT => exact rfl); (case hd => exact rfl)) | (apply Does.catl; (case ho => with_reducible exact rfl); (case hx => first | exact evo_ki | exact evo_kb | exact rfl); (case hy => first | exact evo_ki | exact evo_kb | exact rfl); (case hr => exact lz)) | (apply Does.lss; (case ho => with_reducible exact rfl); (case hx => first | exact evo_ki | exact evo_kb | exact rfl); (case hy => first | exact evo_ki | exact evo_kb | exact rfl); (case hr => first | exact dT lz | exact dF lz)) | (apply Does.eql; (case ho => with_reducible exact rfl); (case hx => first | exact evo_ki | exact evo_kb | exact rfl); (case hy => first | exact evo_ki | exact evo_kb | exact rfl); (case hr => first | exact dT lz | exact dF lz)) | (apply Does.neq; (case ho => with_reducible exact rfl); (case hx => first | exact evo_ki | exact evo_kb | exact rfl); (case hy => first | exact evo_ki | exact evo_kb | exact rfl); (case hr => first | exact dT lz | exact dF lz)) | (apply Does.leq; (case ho => with_reducible exact rfl); (case hx => first | exact evo_ki | exact evo_kb | exact rfl); (case hy => first | exact evo_ki | exact evo_kb | exact rfl); (case hr => first | exact dT lz | exact dF lz)) | (apply Does.gtr; (case ho => with_reducible exact rfl); (case hx => first | exact evo_ki | exact evo_kb | exact rfl); (case hy => first | exact evo_ki | exact evo_kb | exact rfl); (case hr => first | exact dT lz | exact dF lz)) | (apply Does.geq; (case ho => with_reducible exact rfl); (case hx => first | exact evo_ki | exact evo_kb | exact rfl); (case hy => first | exact evo_ki | exact evo_kb | exact rfl); (case hr => first | exact dT lz | exact dF lz)) | (apply Does.add; (case ho => with_reducible exact rfl); (case hx => first | exact evo_ki | exact evo_kb | exact rfl); (case hy => first | exact evo_ki | exact evo_kb | exact rfl); (case hr => first | with_reducible assumption | with_reducible exact uadd | exact add_i64r (by omega) | exact add_i64 (by omega) | exact add_u64r (by omega) | exact add_u64 (by omega) | exact wrap_i64 (by omega) | exact wrap_u64 (by omega) | exact wrap_u8 (by omega) | exact rfl)) | (apply Does.sub; (case ho => with_reducible exact rfl); (case hx => first | exact evo_ki | exact evo_kb | exact rfl); (case hy => first | exact evo_ki | exact evo_kb | exact rfl); (case hr => first | with_reducible assumption | with_reducible exact usub | exact sub_i64r (by omega) (by omega) | exact sub_i64 (by omega) (by omega) | exact sub_i64l (by omega) (by omega) | exact sub_u64r (by omega) (by omega) | exact sub_u64l (by omega) (by omega) | exact sub_u64 (by omega) (by omega) | exact wrap_i64 (by omega) | exact wrap_u64 (by omega) | exact wrap_u8 (by omega) | exact rfl)) | (apply Does.mul; (case ho => with_reducible exact rfl); (case hx => first | exact evo_ki | exact evo_kb | exact rfl); (case hy => first | exact evo_ki | exact evo_kb | exact rfl); (case hr => first | with_reducible assumption | exact mul_i64r (by omega) | exact mul_i64l (by omega) | exact mul_i64 (by omega) | exact mul_u64r (by omega) | exact mul_u64l (by omega) | exact mul_u64 (by omega) | exact mul_u64m | exact rfl)) | (apply Does.and'; (case ho => with_reducible exact rfl); (case hx => first | exact evo_ki | exact evo_kb | exact rfl); (case hy => first | exact evo_ki | exact evo_kb | exact rfl); (case hr => first | with_reducible assumption | with_reducible exact band | with_reducible exact bandn | exact and_u64 lz lz | exact rfl)) | (apply Does.or'; (case ho => with_reducible exact rfl); (case hx => first | exact evo_ki | exact evo_kb | exact rfl); (case hy => first | exact evo_ki | exact evo_kb | exact rfl); (case hr => first | with_reducible assumption | with_reducible exact uor | with_reducible exact uorn | with_reducible exact bor | exact or_u64 lz lz | exact rfl)) | (apply Does.xor'; (case ho => with_reducible exact rfl); (case hx => first | exact evo_ki | exact evo_kb | exact rfl); (case hy => first | exact evo_ki | exact evo_kb | exact rfl); (case hr => first | with_reducible assumption | with_reducible exact uxor | with_reducible exact uxorn | exact xor_u64 lz lz | exact rfl)) | (apply Does.quo; (case ho => with_reducible exact rfl); (case hx => first | exact evo_ki | exact evo_kb | exact rfl); (case hy => first | exact evo_ki | exact evo_kb | exact rfl); (case h0 => first | decide | omega); (case hr => first | with_reducible assumption | with_reducible exact quo_u8r (by omega) | exact quo_i64r (by omega) | exact quo_u64r (by omega) | exact quo_i64 (by omega) | exact quo_u64 (by omega) | exact rfl)) | (apply Does.rem; (case ho => with_reducible exact rfl); (case hx => first | exact evo_ki | exact evo_kb | exact rfl); (case hy => first | exact evo_ki | exact evo_kb | exact rfl); (case h0 => first | decide | omega); (case hr => first | with_reducible assumption | exact rem_r | exact rem_nat | exact rfl)) | (apply Does.shr; (case ho => with_reducible exact rfl); (case hx => first | exact evo_ki | exact evo_kb | exact rfl); (case hy => first | exact evo_ki | exact evo_kb | exact rfl); (case h0 => first | decide | omega); (case hr => first | with_reducible assumption | exact shr_u64r (by omega) | exact shr_u64 (by omega) | exact shr_u8r (by omega) | exact rfl)) | (apply Does.shl; (case ho => with_reducible exact rfl); (case hx => first | exact evo_ki | exact evo_kb | exact rfl); (case hy => first | exact evo_ki | exact evo_kb | exact rfl); (case h0 => first | decide | omega); (case hr => first | with_reducible assumption | with_reducible exact shl_u8l (by omega) | exact shl_u64r (by omega) | exact shl_u64 (by omega) | exact shl_u8r (by omega) | exact rfl)) | (apply Does.eqInts bK_inj tt; (case ho => with_reducible exact rfl); (case hx => first | exact evo_ki | exact evo_kb | exact rfl); (case hy => first | exact evo_ki | exact evo_kb | exact rfl); (case hT => exact rfl); (case hd => exact rfl); (case hE => exact rfl); (case he => exact rfl); (case hs => exact rfl); (case hl => exact lz); (case hm => exact lz); (case hr' => first | exact dT lz | exact dF lz)) | (apply Does.eqInts qK_inj tt; (case ho => with_reducible exact rfl); (case hx => first | exact evo_ki | exact evo_kb | exact rfl); (case hy => first | exact evo_ki | exact evo_kb | exact rfl); (case hT => exact rfl); (case hd => exact rfl); (case hE => exact rfl); (case he => exact rfl); (case hs => exact rfl); (case hl => exact lz); (case hm => exact lz); (case hr' => first | exact dT lz | exact dF lz)) | (apply Does.eqInts uK_inj tt; (case ho => with_reducible exact rfl); (case hx => first | exact evo_ki | exact evo_kb | exact rfl); (case hy => first | exact evo_ki | exact evo_kb | exact rfl); (case hT => exact rfl); (case hd => exact rfl); (case hE => exact rfl); (case he => exact rfl); (case hs => exact rfl); (case hl => exact lz); (case hm => exact lz); (case hr' => first | exact dT lz | exact dF lz)) | (apply Does.eqInts (m := List.replicate 4 0) uK_inj tt; (case ho => with_reducible exact rfl); (case hx => first | exact evo_ki | exact evo_kb | exact rfl); (case hy => first | exact evo_ki | exact evo_kb | exact rfl); (case hT => exact rfl); (case hd => exact rfl); (case hE => exact rfl); (case he => exact rfl); (case hs => exact rfl); (case hl => exact lz); (case hm => exact lz); (case hr' => first | exact dT lz | exact dF lz)) | (apply Does.eqInts (m := List.replicate 32 0) bK_inj tt; (case ho => with_reducible exact rfl); (case hx => first | exact evo_ki | exact evo_kb | exact rfl); (case hy => first | exact evo_ki | exact evo_kb | exact rfl); (case hT => exact rfl); (case hd => exact rfl); (case hE => exact rfl); (case he => exact rfl); (case hs => exact rfl); (case hl => exact lz); (case hm => exact lz); (case hr' => first | exact dT lz | exact dF lz)) | (apply Does.eqInts (m := List.replicate 8 0) qK_inj tt; (case ho => with_reducible exact rfl); (case hx => first | exact evo_ki | exact evo_kb | exact rfl); (case hy => first | exact evo_ki | exact evo_kb | exact rfl); (case hT => exact rfl); (case hd => exact rfl); (case hE => exact rfl); (case he => exact rfl); (case hs => exact rfl); (case hl => exact lz); (case hm => exact lz); (case hr' => first | exact dT lz | exact dF lz)) | (apply Does.eqInts (m := List.replicate 8 0) bK_inj tt; (case ho => with_reducible exact rfl); (case hx => first | exact evo_ki | exact evo_kb | exact rfl); (case hy => first | exact evo_ki | exact evo_kb | exact rfl); (case hT => exact rfl); (case hd => exact rfl); (case hE => exact rfl); (case he => exact rfl); (case hs => exact rfl); (case hl => exact lz); (case hm => exact lz); (case hr' => first | exact dT lz | exact dF lz)) | (apply Does.neInts bK_inj tt; (case ho => with_reducible exact rfl); (case hx => first | exact evo_ki | exact evo_kb | exact rfl); (case hy => first | exact evo_ki | exact evo_kb | exact rfl); (case hT => exact rfl); (case hd => exact rfl); (case hE => exact rfl); (case he => exact rfl); (case hs => exact rfl); (case hl => exact lz); (case hm => exact lz); (case hr' => first | exact dT lz | exact dF lz)) | (apply Does.neInts qK_inj tt; (case ho => with_reducible exact rfl); (case hx => first | exact evo_ki | exact evo_kb | exact rfl); (case hy => first | exact evo_ki | exact evo_kb | exact rfl); (case hT => exact rfl); (case hd => exact rfl); (case hE => exact rfl); (case he => exact rfl); (case hs => exact rfl); (case hl => exact lz); (case hm => exact lz); (case hr' => first | exact dT lz | exact dF lz)) | (apply Does.neInts uK_inj tt; (case ho => with_reducible exact rfl); (case hx => first | exact evo_ki | exact evo_kb | exact rfl); (case hy => first | exact evo_ki | exact evo_kb | exact rfl); (case hT => exact rfl); (case hd => exact rfl); (case hE => exact rfl); (case he => exact rfl); (case hs => exact rfl); (case hl => exact lz); (case hm => exact lz); (case hr' => first | exact dT lz | exact dF lz)) | (apply Does.neInts (m := List.replicate 4 0) uK_inj tt; (case ho => with_reducible exact rfl); (case hx => first | exact evo_ki | exact evo_kb | exact rfl); (case hy => first | exact evo_ki | exact evo_kb | exact rfl); (case hT => exact rfl); (case hd => exact rfl); (case hE => exact rfl); (case he => exact rfl); (case hs => exact rfl); (case hl => exact lz); (case hm => exact lz); (case hr' => first | exact dT lz | exact dF lz)) | (apply Does.neInts (m := List.replicate 32 0) bK_inj tt; (case ho => with_reducible exact rfl); (case hx => first | exact evo_ki | exact evo_kb | exact rfl); (case hy => first | exact evo_ki | exact evo_kb | exact rfl); (case hT => exact rfl); (case hd => exact rfl); (case hE => exact rfl); (case he => exact rfl); (case hs => exact rfl); (case hl => exact lz); (case hm => exact lz); (case hr' => first | exact dT lz | exact dF lz)) | (apply Does.neInts (m := List.replicate 8 0) qK_inj tt; (case ho => with_reducible exact rfl); (case hx => first | exact evo_ki | exact evo_kb | exact rfl); (case hy => first | exact evo_ki | exact evo_kb | exact rfl); (case hT => exact rfl); (case hd => exact rfl); (case hE => exact rfl); (case he => exact rfl); (case hs => exact rfl); (case hl => exact lz); (case hm => exact lz); (case hr' => first | exact dT lz | exact dF lz)) | (apply Does.neInts (m := List.replicate 8 0) bK_inj tt; (case ho => with_reducible exact rfl); (case hx => first | exact evo_ki | exact evo_kb | exact rfl); (case hy => first | exact evo_ki | exact evo_kb | exact rfl); (case hT => exact rfl); (case hd => exact rfl); (case hE => exact rfl); (case he => exact rfl); (case hs => exact rfl); (case hl => exact lz); (case hm => exact lz); (case hr' => first | exact dT lz | exact dF lz))))) | (apply Does.gI; (case ho => with_reducible exact rfl); (case h => (first | (apply Does.idxArr0 tt; (case ho => with_reducible exact rfl); (case hx => first | exact evo_ki | exact evo_kb | exact rfl); (case hi => exact rfl); (case hz => first | with_reducible exact rfl | exact litN _ | exact rfl | exact natZ lz); (case hT => exact rfl); (case hd => exact rfl); (case hE => exact rfl); (case hs => exact rfl); (case hk => exact lz)) | (apply Does.idxArr1 tt; (case ho => with_reducible exact rfl); (case hx => first | exact evo_ki | exact evo_kb | exact rfl); (case hi => exact rfl); (case hz => first | with_reducible exact rfl | exact litN _ | exact rfl | exact natZ lz); (case hT => exact rfl); (case hd => exact rfl); (case hE => exact rfl); (case hs => exact rfl); (case hk => exact lz)) | (apply Does.idxArr tt; (case ho => with_reducible exact rfl); (case hx => first | exact evo_ki | exact evo_kb | exact rfl); (case hi => exact rfl); (case hz => first | with_reducible exact rfl | exact litN _ | exact rfl | exact natZ lz); (case hT => exact rfl); (case hd => exact rfl); (case hE => exact rfl); (case hk => exact lz)) | (apply Does.idxSb1 tt; (case ho => with_reducible exact rfl); (case hx => first | exact evo_ki | exact evo_kb | exact rfl); (case hi => exact rfl); (case hz => first | with_reducible exact rfl | exact litN _ | exact rfl | exact natZ lz); (case hT => exact rfl); (case hd => exact rfl); (case hE => exact rfl); (case hs => exact rfl); (case hk => exact lz)) | (apply Does.idxSb tt; (case ho => with_reducible exact rfl); (case hx => first | exact evo_ki | exact evo_kb | exact rfl); (case hi => exact rfl); (case hz => first | with_reducible exact rfl | exact litN _ | exact rfl | exact natZ lz); (case hT => exact rfl); (case hd => exact rfl); (case hE => exact rfl); (case hk => exact lz)) | (apply Does.idx tt; (case ho => with_reducible exact rfl); (case hx => first | exact evo_ki | exact evo_kb | exact rfl); (case hi => exact rfl); (case hz => first | with_reducible exact rfl | exact litN _ | exact rfl | exact natZ lz); (case hT => exact rfl); (case hd => exact rfl); (case hE => exact rfl); (case hu => first | exact getM lz | exact rfl | assumption); (case hs => first | exact lz | exact rfl)) | (apply Does.idxArrQ tt; (case ho => with_reducible exact rfl); (case hx => first | exact evo_ki | exact evo_kb | exact rfl); (case hi => exact rfl); (case hz => first | with_reducible exact rfl | exact litN _ | exact rfl | exact natZ lz); (case hT => exact rfl); (case hd => exact rfl); (case hE => exact rfl); (case hk => exact lz); (case hc => exact rfl))))) | (apply Does.gC; (case ho => with_reducible exact rfl); (case h => (first | (apply Does.len tt; (case ho => with_reducible exact rfl); (case hts => exact rfl); (case hx => first | exact evo_ki | exact evo_kb | exact rfl); (case hT => exact rfl); (case hd => exact rfl); (case hn => first | with_reducible exact List.length_map _ | exact rfl)) | (apply Does.lenNil tt; (case ho => with_reducible exact rfl); (case hts => exact rfl); (case hx => first | exact evo_ki | exact evo_kb | exact rfl); (case hT => exact rfl); (case hd => exact rfl)) | (apply Does.lenSb tt; (case ho => with_reducible exact rfl); (case hts => exact rfl); (case hx => first | exact evo_ki | exact evo_kb | exact rfl); (case hT => exact rfl); (case hd => exact rfl)) | (apply Does.lenSl tt; (case ho => with_reducible exact rfl); (case hts => exact rfl); (case hx => first | exact evo_ki | exact evo_kb | exact rfl); (case hT => exact rfl); (case hd => exact rfl)) | (apply Does.lenS tt; (case ho => with_reducible exact rfl); (case hts => exact rfl); (case hx => first | exact evo_ki | exact evo_kb | exact rfl); (case hT => exact rfl); (case hd => exact rfl)) | (apply Does.min; (case ho => with_reducible exact rfl); (case hx => first | exact evo_ki | exact evo_kb | exact rfl); (case hy => first | exact evo_ki | exact evo_kb | exact rfl); (case hr => first | with_reducible assumption | exact if_pos lz | exact if_neg lz | exact rfl)) | (apply Does.max; (case ho => with_reducible exact rfl); (case hx => first | exact evo_ki | exact evo_kb | exact rfl); (case hy => first | exact evo_ki | exact evo_kb | exact rfl); (case hr => first | with_reducible assumption | exact if_pos lz | exact if_neg lz | exact rfl)) | (apply Does.call; (case ho => with_reducible exact rfl); (case hx => exact rfl); (first | ((case' hc => apply c1); (case hu => first | exact .same _ | exact ft1 rfl | exact ft2 rfl | (apply ft1; simp only [V.cv, V.cv.go, V.cells, cv_mapb, cv_mapq, cv_mapu] <;> rfl))) | ((case' hc => apply c2); (case hu => first | exact .same _ | exact ft1 rfl | exact ft2 rfl | (apply ft1; simp only [V.cv, V.cv.go, V.cells, cv_mapb, cv_mapq, cv_mapu] <;> rfl))) | ((case' hc => apply c3); (case hu => first | exact .same _ | exact ft1 rfl | exact ft2 rfl | (apply ft1; simp only [V.cv, V.cv.go, V.cells, cv_mapb, cv_mapq, cv_mapu] <;> rfl))) | ((case' hc => apply c4); (case hu => first | exact .same _ | exact ft1 rfl | exact ft2 rfl | (apply ft1; simp only [V.cv, V.cv.go, V.cells, cv_mapb, cv_mapq, cv_mapu] <;> rfl))) | ((case' hc => apply c5); (case hu => first | exact .same _ | exact ft1 rfl | exact ft2 rfl | (apply ft1; simp only [V.cv, V.cv.go, V.cells, cv_mapb, cv_mapq, cv_mapu] <;> rfl))) | ((case' hc => apply c6); (case hu => first | exact .same _ | exact ft1 rfl | exact ft2 rfl | (apply ft1; simp only [V.cv, V.cv.go, V.cells, cv_mapb, cv_mapq, cv_mapu] <;> rfl))) | ((case' hc => apply c7); (case hu => first | exact .same _ | exact ft1 rfl | exact ft2 rfl | (apply ft1; simp only [V.cv, V.cv.go, V.cells, cv_mapb, cv_mapq, cv_mapu] <;> rfl))) | ((case' hc => apply c8); (case hu => first | exact .same _ | exact ft1 rfl | exact ft2 rfl | (apply ft1; simp only [V.cv, V.cv.go, V.cells, cv_mapb, cv_mapq, cv_mapu] <;> rfl))) | ((case' hc => apply c9); (case hu => first | exact .same _ | exact ft1 rfl | exact ft2 rfl | (apply ft1; simp only [V.cv, V.cv.go, V.cells, cv_mapb, cv_mapq, cv_mapu] <;> rfl))) | ((case' hc => apply c10); (case hu => first | exact .same _ | exact ft1 rfl | exact ft2 rfl | (apply ft1; simp only [V.cv, V.cv.go, V.cells, cv_mapb, cv_mapq, cv_mapu] <;> rfl))) | ((case' hc => apply c11); (case hu => first | exact .same _ | exact ft1 rfl | exact ft2 rfl | (apply ft1; simp only [V.cv, V.cv.go, V.cells, cv_mapb, cv_mapq, cv_mapu] <;> rfl))) | ((case' hc => apply c12); (case hu => first | exact .same _ | exact ft1 rfl | exact ft2 rfl | (apply ft1; simp only [V.cv, V.cv.go, V.cells, cv_mapb, cv_mapq, cv_mapu] <;> rfl))) | ((case' hc => apply c13); (case hu => first | exact .same _ | exact ft1 rfl | exact ft2 rfl | (apply ft1; simp only [V.cv, V.cv.go, V.cells, cv_mapb, cv_mapq, cv_mapu] <;> rfl))) | ((case' hc => apply c14); (case hu => first | exact .same _ | exact ft1 rfl | exact ft2 rfl | (apply ft1; simp only [V.cv, V.cv.go, V.cells, cv_mapb, cv_mapq, cv_mapu] <;> rfl))) | ((case' hc => apply c15); (case hu => first | exact .same _ | exact ft1 rfl | exact ft2 rfl | (apply ft1; simp only [V.cv, V.cv.go, V.cells, cv_mapb, cv_mapq, cv_mapu] <;> rfl))) | ((case' hc => apply c16); (case hu => first | exact .same _ | exact ft1 rfl | exact ft2 rfl | (apply ft1; simp only [V.cv, V.cv.go, V.cells, cv_mapb, cv_mapq, cv_mapu] <;> rfl)))); (case hr => first | exact rfl | (simp only [V.cells, refsE, refsM, V.refs, V.refs.go, V.pure, V.pure.go, pure_mapq, pure_mapb, pure_mapu, refs_mapq, refs_mapb, refs_mapu, refs_append, Bool.and_true, Bool.true_and, Bool.and_self] <;> exact rfl) | (simp only [V.cells, refsE, refsM, V.refs, V.refs.go, V.pure, V.pure.go, pure_mapq, pure_mapb, pure_mapu, refs_mapq, refs_mapb, refs_mapu, refs_append, Bool.and_true, Bool.true_and, Bool.and_self, hrf] <;> exact rfl) | (simp only [V.cells, refsE, refsM, V.refs, V.refs.go, V.pure, V.pure.go, pure_mapq, pure_mapb, pure_mapu, refs_mapq, refs_mapb, refs_mapu, refs_append, Bool.and_true, Bool.true_and, Bool.and_self, hrf, hrg] <;> exact rfl) | exact lz); all_goals exact lz) | (apply Does.callF; (case ho => with_reducible exact rfl); (case hf => exact rfl); (case hx => exact rfl); (first | ((case' hc => apply c1); (case hu => first | exact .same _ | exact ft1 rfl | exact ft2 rfl | (apply ft1; simp only [V.cv, V.cv.go, V.cells, cv_mapb, cv_mapq, cv_mapu] <;> rfl))) | ((case' hc => apply c2); (case hu => first | exact .same _ | exact ft1 rfl | exact ft2 rfl | (apply ft1; simp only [V.cv, V.cv.go, V.cells, cv_mapb, cv_mapq, cv_mapu] <;> rfl))) | ((case' hc => apply c3); (case hu => first | exact .same _ | exact ft1 rfl | exact ft2 rfl | (apply ft1; simp only [V.cv, V.cv.go, V.cells, cv_mapb, cv_mapq, cv_mapu] <;> rfl))) | ((case' hc => apply c4); (case hu => first | exact .same _ | exact ft1 rfl | exact ft2 rfl | (apply ft1; simp only [V.cv, V.cv.go, V.cells, cv_mapb, cv_mapq, cv_mapu] <;> rfl))) | ((case' hc => apply c5); (case hu => first | exact .same _ | exact ft1 rfl | exact ft2 rfl | (apply ft1; simp only [V.cv, V.cv.go, V.cells, cv_mapb, cv_mapq, cv_mapu] <;> rfl))) | ((case' hc => apply c6); (case hu => first | exact .same _ | exact ft1 rfl | exact ft2 rfl | (apply ft1; simp only [V.cv, V.cv.go, V.cells, cv_mapb, cv_mapq, cv_mapu] <;> rfl))) | ((case' hc => apply c7); (case hu => first | exact .same _ | exact ft1 rfl | exact ft2 rfl | (apply ft1; simp only [V.cv, V.cv.go, V.cells, cv_mapb, cv_mapq, cv_mapu] <;> rfl))) | ((case' hc => apply c8); (case hu => first | exact .same _ | exact ft1 rfl | exact ft2 rfl | (apply ft1; simp only [V.cv, V.cv.go, V.cells, cv_mapb, cv_mapq, cv_mapu] <;> rfl))) | ((case' hc => apply c9); (case hu => first | exact .same _ | exact ft1 rfl | exact ft2 rfl | (apply ft1; simp only [V.cv, V.cv.go, V.cells, cv_mapb, cv_mapq, cv_mapu] <;> rfl))) | ((case' hc => apply c10); (case hu => first | exact .same _ | exact ft1 rfl | exact ft2 rfl | (apply ft1; simp only [V.cv, V.cv.go, V.cells, cv_mapb, cv_mapq, cv_mapu] <;> rfl))) | ((case' hc => apply c11); (case hu => first | exact .same _ | exact ft1 rfl | exact ft2 rfl | (apply ft1; simp only [V.cv, V.cv.go, V.cells, cv_mapb, cv_mapq, cv_mapu] <;> rfl))) | ((case' hc => apply c12); (case hu => first | exact .same _ | exact ft1 rfl | exact ft2 rfl | (apply ft1; simp only [V.cv, V.cv.go, V.cells, cv_mapb, cv_mapq, cv_mapu] <;> rfl))) | ((case' hc => apply c13); (case hu => first | exact .same _ | exact ft1 rfl | exact ft2 rfl | (apply ft1; simp only [V.cv, V.cv.go, V.cells, cv_mapb, cv_mapq, cv_mapu] <;> rfl))) | ((case' hc => apply c14); (case hu => first | exact .same _ | exact ft1 rfl | exact ft2 rfl | (apply ft1; simp only [V.cv, V.cv.go, V.cells, cv_mapb, cv_mapq, cv_mapu] <;> rfl))) | ((case' hc => apply c15); (case hu => first | exact .same _ | exact ft1 rfl | exact ft2 rfl | (apply ft1; simp only [V.cv, V.cv.go, V.cells, cv_mapb, cv_mapq, cv_mapu] <;> rfl))) | ((case' hc => apply c16); (case hu => first | exact .same _ | exact ft1 rfl | exact ft2 rfl | (apply ft1; simp only [V.cv, V.cv.go, V.cells, cv_mapb, cv_mapq, cv_mapu] <;> rfl)))); (case hr => first | exact rfl | (simp only [V.cells, refsE, refsM, V.refs, V.refs.go, V.pure, V.pure.go, pure_mapq, pure_mapb, pure_mapu, refs_mapq, refs_mapb, refs_mapu, refs_append, Bool.and_true, Bool.true_and, Bool.and_self] <;> exact rfl) | (simp only [V.cells, refsE, refsM, V.refs, V.refs.go, V.pure, V.pure.go, pure_mapq, pure_mapb, pure_mapu, refs_mapq, refs_mapb, refs_mapu, refs_append, Bool.and_true, Bool.true_and, Bool.and_self, hrf] <;> exact rfl) | (simp only [V.cells, refsE, refsM, V.refs, V.refs.go, V.pure, V.pure.go, pure_mapq, pure_mapb, pure_mapu, refs_mapq, refs_mapb, refs_mapu, refs_append, Bool.and_true, Bool.true_and, Bool.and_self, hrf, hrg] <;> exact rfl) | exact lz); all_goals exact lz)))) | (apply Does.gF; (case ho => with_reducible exact rfl); (case h => (first | (apply Does.fieldAddr tt; (case ho => with_reducible exact rfl); (case hx => first | exact evo_ki | exact evo_kb | exact rfl); (case hT => exact rfl); (case hd => exact rfl); (case hf => exact rfl); (case hF => exact rfl); (case hs => exact rfl)) | (apply Does.fieldAddrQ tt; (case ho => with_reducible exact rfl); (case hx => first | exact evo_ki | exact evo_kb | exact rfl); (case hT => exact rfl); (case hd => exact rfl); (case hf => exact rfl); (case hF => exact rfl); (case hs => exact rfl); (case hc => exact rfl))))) | (apply Does.gU; (case ho => with_reducible exact rfl); (case h => (first | (apply Does.not; (case ho => with_reducible exact rfl); (case hx => first | exact evo_ki | exact evo_kb | exact rfl)) | (apply Does.neg; (case ho => with_reducible exact rfl); (case hx => first | exact evo_ki | exact evo_kb | exact rfl); (case hr => first | with_reducible assumption | exact wrap_i64 (by omega) | exact rfl)) | (apply Does.inv; (case ho => with_reducible exact rfl); (case hx => first | exact evo_ki | exact evo_kb | exact rfl); (case hr => first | with_reducible assumption | exact rfl))))) | (apply Does.asrtOk tt; (case ho => with_reducible exact rfl); (case hx => first | exact evo_ki | exact evo_kb | exact rfl); (case hT => exact rfl); (case hd => exact rfl)) | (apply Does.extract; (case ho => with_reducible exact rfl); (case hx => first | exact evo_ki | exact evo_kb | exact rfl); (case hv => exact rfl)) | (apply Does.loadQ tt; (case ho => with_reducible exact rfl); (case hx => first | exact evo_ki | exact evo_kb | exact rfl); (case hT => exact rfl); (case hv => (first | exact part_map rfl rfl lz | exact part_whole rfl lz | (apply ld1 <;> first | exact rfl | exact lz) | (apply ld2 <;> first | exact rfl | exact lz) | (apply part_l; (first | exact part_map rfl rfl lz | exact part_whole rfl lz | exact rfl)) | (apply part_r; (case hl => first | exact (List.length_map _).trans (by assumption) | ((try apply (List.length_map _).trans); (repeat apply List.length_set.trans); assumption) | rfl); (case hk => first | exact off_s | exact off_r (by decide) | exact off_r lz); first | (apply part_l; (first | exact part_map rfl rfl lz | exact part_whole rfl lz | exact rfl)) | (apply part_r; (case hl => first | exact (List.length_map _).trans (by assumption) | ((try apply (List.length_map _).trans); (repeat apply List.length_set.trans); assumption) | rfl); (case hk => first | exact off_s | exact off_r (by decide) | exact off_r lz); (first | exact part_map rfl rfl lz | exact part_whole rfl lz | exact rfl)) | (first | exact part_map rfl rfl lz | exact part_whole rfl lz | exact rfl)) | exact rfl))) | (apply Does.field tt; (case ho => with_reducible exact rfl); (case hx => first | exact evo_ki | exact evo_kb | exact rfl); (case hT => exact rfl); (case hd => exact rfl); (case hf => exact rfl); (case hF => exact rfl); (case hv => (first | exact part_map rfl rfl lz | exact part_whole rfl lz | (apply ld1 <;> first | exact rfl | exact lz) | (apply ld2 <;> first | exact rfl | exact lz) | (apply part_l; (first | exact part_map rfl rfl lz | exact part_whole rfl lz | exact rfl)) | (apply part_r; (case hl => first | exact (List.length_map _).trans (by assumption) | ((try apply (List.length_map _).trans); (repeat apply List.length_set.trans); assumption) | rfl); (case hk => first | exact off_s | exact off_r (by decide) | exact off_r lz); first | (apply part_l; (first | exact part_map rfl rfl lz | exact part_whole rfl lz | exact rfl)) | (apply part_r; (case hl => first | exact (List.length_map _).trans (by assumption) | ((try apply (List.length_map _).trans); (repeat apply List.length_set.trans); assumption) | rfl); (case hk => first | exact off_s | exact off_r (by decide) | exact off_r lz); (first | exact part_map rfl rfl lz | exact part_whole rfl lz | exact rfl)) | (first | exact part_map rfl rfl lz | exact part_whole rfl lz | exact rfl)) | exact rfl))) | (apply Does.index1 tt; (case ho => with_reducible exact rfl); (case hx => first | exact evo_ki | exact evo_kb | exact rfl); (case hi => exact rfl); (case hz => first | with_reducible exact rfl | exact litN _ | exact rfl | exact natZ lz); (case hT => exact rfl); (case hd => exact rfl); (case hE => exact rfl); (case hs => exact rfl); (case hk => exact lz); (case hv => (first | exact part_map rfl rfl lz | exact part_whole rfl lz | (apply ld1 <;> first | exact rfl | exact lz) | (apply ld2 <;> first | exact rfl | exact lz) | (apply part_l; (first | exact part_map rfl rfl lz | exact part_whole rfl lz | exact rfl)) | (apply part_r; (case hl => first | exact (List.length_map _).trans (by assumption) | ((try apply (List.length_map _).trans); (repeat apply List.length_set.trans); assumption) | rfl); (case hk => first | exact off_s | exact off_r (by decide) | exact off_r lz); first | (apply part_l; (first | exact part_map rfl rfl lz | exact part_whole rfl lz | exact rfl)) | (apply part_r; (case hl => first | exact (List.length_map _).trans (by assumption) | ((try apply (List.length_map _).trans); (repeat apply List.length_set.trans); assumption) | rfl); (case hk => first | exact off_s | exact off_r (by decide) | exact off_r lz); (first | exact part_map rfl rfl lz | exact part_whole rfl lz | exact rfl)) | (first | exact part_map rfl rfl lz | exact part_whole rfl lz | exact rfl)) | exact rfl))) | (apply Does.index tt; (case ho => with_reducible exact rfl); (case hx => first | exact evo_ki | exact evo_kb | exact rfl); (case hi => exact rfl); (case hz => first | with_reducible exact rfl | exact litN _ | exact rfl | exact natZ lz); (case hT => exact rfl); (case hd => exact rfl); (case hE => exact rfl); (case hk => exact lz); (case hv => (first | exact part_map rfl rfl lz | exact part_whole rfl lz | (apply ld1 <;> first | exact rfl | exact lz) | (apply ld2 <;> first | exact rfl | exact lz) | (apply part_l; (first | exact part_map rfl rfl lz | exact part_whole rfl lz | exact rfl)) | (apply part_r; (case hl => first | exact (List.length_map _).trans (by assumption) | ((try apply (List.length_map _).trans); (repeat apply List.length_set.trans); assumption) | rfl); (case hk => first | exact off_s | exact off_r (by decide) | exact off_r lz); first | (apply part_l; (first | exact part_map rfl rfl lz | exact part_whole rfl lz | exact rfl)) | (apply part_r; (case hl => first | exact (List.length_map _).trans (by assumption) | ((try apply (List.length_map _).trans); (repeat apply List.length_set.trans); assumption) | rfl); (case hk => first | exact off_s | exact off_r (by decide) | exact off_r lz); (first | exact part_map rfl rfl lz | exact part_whole rfl lz | exact rfl)) | (first | exact part_map rfl rfl lz | exact part_whole rfl lz | exact rfl)) | exact rfl))) | (apply Does.buildArr tt; (case ho => with_reducible exact rfl); (case hT => exact rfl); (case hd => exact rfl); (case hE => exact rfl); (case hv => exact rfl); (case hc => exact rfl)) | (apply Does.buildSt tt; (case ho => with_reducible exact rfl); (case hT => exact rfl); (case hd => exact rfl); (case hpl => exact rfl); (case hv => exact rfl); (case hc => exact rfl)) | (apply Does.pick; (case ho => with_reducible exact rfl); (case hc => exact rfl); (case hx => first | exact evo_ki | exact evo_kb | exact rfl)) | (apply Does.pickT; (case ho => with_reducible exact rfl); (case hc => exact rfl); (case hb => assumption); (case hx => first | exact evo_ki | exact evo_kb | exact rfl)) | (apply Does.pickF; (case ho => with_reducible exact rfl); (case hc => exact rfl); (case hb => assumption); (case hx => first | exact evo_ki | exact evo_kb | exact rfl)) | (apply Does.pickB; (case ho => with_reducible exact rfl); (case hc => exact rfl); (case hx => first | exact evo_ki | exact evo_kb | exact rfl); (case hy => first | exact evo_ki | exact evo_kb | exact rfl)) | (apply Does.conv tt; (case ho => with_reducible exact rfl); (case hx => first | exact evo_ki | exact evo_kb | exact rfl); (case hS => exact rfl); (case hT => exact rfl); (case hd => exact rfl); (case hr => first | with_reducible assumption | exact wrap_i64 (by omega) | exact wrap_u64 (by omega) | exact wrap_u8 (by omega) | exact to_u8b | exact to_u64 | exact rfl)) | (apply Does.toStr tt; (case ho => with_reducible exact rfl); (case hx => first | exact evo_ki | exact evo_kb | exact rfl); (case hS => exact rfl); (case hd => exact rfl); (case hE => exact rfl); (case hdE => exact rfl); (case hT => exact rfl); (case hdT => exact rfl)) | (apply Does.mkIface tt; (case ho => with_reducible exact rfl); (case hx => first | exact evo_ki | exact evo_kb | exact rfl); (case hT => exact rfl); (case hd => exact rfl)) | (apply Does.nilCheck; (case ho => with_reducible exact rfl); (case hx => first | exact evo_ki | exact evo_kb | exact rfl)) | (apply Does.nilCheckQ; (case ho => with_reducible exact rfl); (case hx => first | exact evo_ki | exact evo_kb | exact rfl)) | (apply Does.nilCheckF; (case ho => with_reducible exact rfl); (case hx => first | exact evo_ki | exact evo_kb | exact rfl)) | (apply Does.arrAt tt; (case ho => with_reducible exact rfl); (case hx => first | exact evo_ki | exact evo_kb | exact rfl); (case hT => exact rfl); (case hd => exact rfl); (case hn => exact lz); (case h0 => exact rfl)) | (apply Does.arrAtSb tt; (case ho => with_reducible exact rfl); (case hx => first | exact evo_ki | exact evo_kb | exact rfl); (case hT => exact rfl); (case hd => exact rfl); (case hn => exact lz)) | (apply Does.cut tt; (case ho => with_reducible exact rfl); (case hx => first | exact evo_ki | exact evo_kb | exact rfl); (case hT => exact rfl); (case hd => exact rfl); (case hE => exact rfl); (case hlo => (first | exact Bd.none | exact Bd.some rfl (by first | with_reducible exact rfl | exact litN _ | exact rfl))); (case hhi => (first | exact Bd.none | exact Bd.some rfl (by first | with_reducible exact rfl | exact litN _ | exact rfl))); (case h1 => exact lz); (case h2 => exact lz); (case hs => exact sz'); (case he => first | exact cut_all | exact cut_lo | exact cut_hi | exact cut_map | exact rfl)) | (apply Does.cutSb tt; (case ho => with_reducible exact rfl); (case hx => first | exact evo_ki | exact evo_kb | exact rfl); (case hT => exact rfl); (case hd => exact rfl); (case hE => exact rfl); (case hlo => (first | exact Bd.none | exact Bd.some rfl (by first | with_reducible exact rfl | exact litN _ | exact rfl))); (case hhi => (first | exact Bd.none | exact Bd.some rfl (by first | with_reducible exact rfl | exact litN _ | exact rfl))); (case h1 => exact lz); (case h2 => exact lz); (case h3 => exact lz)) | (apply Does.cutSbE tt; (case ho => with_reducible exact rfl); (case hx => first | exact evo_ki | exact evo_kb | exact rfl); (case hT => exact rfl); (case hd => exact rfl); (case hE => exact rfl); (case hlo => (first | exact Bd.none | exact Bd.some rfl (by first | with_reducible exact rfl | exact litN _ | exact rfl))); (case hhi => (first | exact Bd.none | exact Bd.some rfl (by first | with_reducible exact rfl | exact litN _ | exact rfl))); (case h1 => exact lz); (case h2 => exact lz)) | (apply Does.cutA0 tt; (case ho => with_reducible exact rfl); (case hx => first | exact evo_ki | exact evo_kb | exact rfl); (case hT => exact rfl); (case hd => exact rfl); (case hE => exact rfl); (case hs => exact rfl); (case hlo => (first | exact Bd.none | exact Bd.some rfl (by first | with_reducible exact rfl | exact litN _ | exact rfl))); (case hhi => (first | exact Bd.none | exact Bd.some rfl (by first | with_reducible exact rfl | exact litN _ | exact rfl))); (case h1 => exact lz); (case h2 => exact lz); (case h3 => exact lz)) | (apply Does.cutA1 tt; (case ho => with_reducible exact rfl); (case hx => first | exact evo_ki | exact evo_kb | exact rfl); (case hT => exact rfl); (case hd => exact rfl); (case hE => exact rfl); (case hs => exact rfl); (case hlo => (first | exact Bd.none | exact Bd.some rfl (by first | with_reducible exact rfl | exact litN _ | exact rfl))); (case hhi => (first | exact Bd.none | exact Bd.some rfl (by first | with_reducible exact rfl | exact litN _ | exact rfl))); (case h1 => exact lz); (case h2 => exact lz); (case h3 => exact lz)) | (apply Does.cutSl tt; (case ho => with_reducible exact rfl); (case hx => first | exact evo_ki | exact evo_kb | exact rfl); (case hT => exact rfl); (case hd => exact rfl); (case hlo => (first | exact Bd.none | exact Bd.some rfl (by first | with_reducible exact rfl | exact litN _ | exact rfl))); (case hhi => (first | exact Bd.none | exact Bd.some rfl (by first | with_reducible exact rfl | exact litN _ | exact rfl))); (case h1 => exact lz); (case h2 => exact lz)) | (apply Does.indexSl tt; (case ho => with_reducible exact rfl); (case hx => first | exact evo_ki | exact evo_kb | exact rfl); (case hi => exact rfl); (case hz => first | with_reducible exact rfl | exact litN _ | exact rfl | exact natZ lz); (case hT => exact rfl); (case hd => exact rfl); (case hk => exact lz)) | (apply Does.cutS tt; (case ho => with_reducible exact rfl); (case hx => first | exact evo_ki | exact evo_kb | exact rfl); (case hT => exact rfl); (case hd => exact rfl); (case hlo => (first | exact Bd.none | exact Bd.some rfl (by first | with_reducible exact rfl | exact litN _ | exact rfl))); (case hhi => (first | exact Bd.none | exact Bd.some rfl (by first | with_reducible exact rfl | exact litN _ | exact rfl))); (case h1 => exact lz); (case h2 => exact lz)) | (apply Does.indexS tt; (case ho => with_reducible exact rfl); (case hx => first | exact evo_ki | exact evo_kb | exact rfl); (case hi => exact rfl); (case hz => first | with_reducible exact rfl | exact litN _ | exact rfl | exact natZ lz); (case hT => exact rfl); (case hd => exact rfl); (case hk => exact lz)) | (apply Does.mkFunc; (case ho => with_reducible exact rfl); (case h1 => exact rfl); (case h2 => exact rfl)))); (case hd => exact rfl)) | (apply DR.st tt; (case ho => with_reducible exact rfl); (case hg => first | exact rfl | exact gd_y rfl rfl rfl (by assumption)); (case hds => exact rfl); (case hx => first | exact evo_ki | exact evo_kb | exact rfl); (case hy => first | exact evo_ki | exact evo_kb | exact rfl); (case hm => exact rfl); (case hT => exact rfl); (case hu => exact rfl); (case hs => first | exact rfl | exact beq_len lz); (case hle => first | exact rfl | exact ble_map1 lz | exact ble_len lz | exact Nat.ble_eq_true_of_le lz); (case hcs => (first | exact splice_map rfl lz | exact splice_all lz | (apply splice_l; (case h => (first | exact splice_map rfl lz | exact splice_one rfl | exact splice_all lz | exact rfl)); exact lz) | (apply splice_r; (case hl => first | exact (List.length_map _).trans (by assumption) | ((try apply (List.length_map _).trans); (repeat apply List.length_set.trans); assumption) | rfl); (case hk => first | exact off_s | exact off_r (by decide) | exact off_r lz); first | (apply splice_l; (case h => (first | exact splice_map rfl lz | exact splice_one rfl | exact splice_all lz | exact rfl)); exact lz) | (apply splice_r; (case hl => first | exact (List.length_map _).trans (by assumption) | ((try apply (List.length_map _).trans); (repeat apply List.length_set.trans); assumption) | rfl); (case hk => first | exact off_s | exact off_r (by decide) | exact off_r lz); (first | exact splice_map rfl lz | exact splice_one rfl | exact splice_all lz | exact rfl)) | (first | exact splice_map rfl lz | exact splice_one rfl | exact splice_all lz | exact rfl)) | exact rfl))) | (apply DR.nn; (case hg => first | exact rfl | exact gd_y rfl rfl rfl (by assumption)); (case hds => exact rfl); (case h => (first | (apply Does.rangeS tt; (case ho => with_reducible exact rfl); (case hx => first | exact evo_ki | exact evo_kb | exact rfl); (case hT => exact rfl); (case hd => exact rfl)) | (apply Does.alloc tt; (case ho => with_reducible exact rfl); (case hT => exact rfl)) | (apply Does.box; (case ho => with_reducible exact rfl); (case hx => first | exact evo_ki | exact evo_kb | exact rfl); (case hu => exact rfl)) | (apply Does.buildSlice tt; (case ho => with_reducible exact rfl); (case hT => exact rfl); (case hd => exact rfl); (case hE => exact rfl); (case hpos => exact rfl); (case hv => first | exact evp0 | exact evp1 (by first | exact evo_ki | exact evo_kb | exact rfl) | exact evp2 (by first | exact evo_ki | exact evo_kb | exact rfl) (by first | exact evo_ki | exact evo_kb | exact rfl) | exact evp3 (by first | exact evo_ki | exact evo_kb | exact rfl) (by first | exact evo_ki | exact evo_kb | exact rfl) (by first | exact evo_ki | exact evo_kb | exact rfl) | exact rfl); (case hde => first | exact dense0 | exact dense1 (by first | exact hbr _ | with_reducible exact bare_k | with_reducible exact bare_s | with_reducible exact bare_am (fun _ => rfl) | exact bare_k | exact bare_s | exact bare_am (fun _ => rfl) | exact rfl) | exact dense2 (by first | exact hbr _ | with_reducible exact bare_k | with_reducible exact bare_s | with_reducible exact bare_am (fun _ => rfl) | exact bare_k | exact bare_s | exact bare_am (fun _ => rfl) | exact rfl) (by first | exact hbr _ | with_reducible exact bare_k | with_reducible exact bare_s | with_reducible exact bare_am (fun _ => rfl) | exact bare_k | exact bare_s | exact bare_am (fun _ => rfl) | exact rfl) | exact dense3 (by first | exact hbr _ | with_reducible exact bare_k | with_reducible exact bare_s | with_reducible exact bare_am (fun _ => rfl) | exact bare_k | exact bare_s | exact bare_am (fun _ => rfl) | exact rfl) (by first | exact hbr _ | with_reducible exact bare_k | with_reducible exact bare_s | with_reducible exact bare_am (fun _ => rfl) | exact bare_k | exact bare_s | exact bare_am (fun _ => rfl) | exact rfl) (by first | exact hbr _ | with_reducible exact bare_k | with_reducible exact bare_s | with_reducible exact bare_am (fun _ => rfl) | exact bare_k | exact bare_s | exact bare_am (fun _ => rfl) | exact rfl) | exact rfl); (case hlen => exact rfl); (case hsm => exact rfl); (case hs => first | exact sz' | exact all_sizes rfl); (case ho1 => exact rfl)) | (apply Does.appNil tt; (case ho => with_reducible exact rfl); (case hx => first | exact evo_ki | exact evo_kb | exact rfl); (case hy => first | exact evo_ki | exact evo_kb | exact rfl); (case hT => exact rfl); (case hd => exact rfl); (case hE => exact rfl); (case hpos => exact rfl); (case hX => exact rfl); (case hdx => exact rfl); (case hys => exact sz'); (case hn => exact rfl); (case hmax => exact lz); (case hb => exact lz)))); (case ht => exact rfl); (case hd => exact rfl)) | (apply DR.aq tt; (case ho => with_reducible exact rfl); (case hg => first | exact rfl | exact gd_y rfl rfl rfl (by assumption)); (case hds => exact rfl); (case hx => first | exact evo_ki | exact evo_kb | exact rfl); (case hy => first | exact evo_ki | exact evo_kb | exact rfl); (case hm => exact rfl); (case hn0 => exact lz); (case hT => exact rfl); (case hdt => exact rfl); (case hE => exact rfl); (case hsz => exact rfl); (case hX => exact rfl); (case hdx => exact rfl); (case hes => exact sz'); (case hys => exact sz'); (case hz => first | exact app_map | exact app_nilmap | exact app_one1 | exact app_one2 | exact app_two | exact app_bl rfl | exact rfl); (case hn => first | exact List.length_map _ | exact rfl); (case hmax => exact lz); (case hb => exact lz); (case hd => exact rfl)) | (apply DR.ww; (case hg => first | exact rfl | exact gd_y rfl rfl rfl (by assumption)); (case hds => exact rfl); (case h => (apply Does.nextS; (case ho => with_reducible exact rfl); (case hb => exact rfl); (case hx => first | exact evo_ki | exact evo_kb | exact rfl); (case hp => exact lz); (case hc => assumption); (case hw => assumption))); (case ht => exact rfl); (case hd => exact rfl)) | (apply DR.rr; (case hg => first | exact rfl | exact gd_y rfl rfl rfl (by assumption)); (case hds => exact rfl); (case h => (apply Does.nextE; (case ho => with_reducible exact rfl); (case hb => exact rfl); (case hx => first | exact evo_ki | exact evo_kb | exact rfl); (case hp => exact lz))); (case ht => exact rfl); (case hd => exact rfl)) | (apply DR.ab tt; (case ho => with_reducible exact rfl); (case hg => first | exact rfl | exact gd_y rfl rfl rfl (by assumption)); (case hds => exact rfl); (case hx => first | exact evo_ki | exact evo_kb | exact rfl); (case hy => first | exact evo_ki | exact evo_kb | exact rfl); (case hm => exact rfl); (case hb2 => exact rfl); (case hn0 => exact lz); (case hT => exact rfl); (case hdt => exact rfl); (case hE => exact rfl); (case hsz => exact rfl); (case hs1 => exact rfl); (case hX => exact rfl); (case hdx => exact rfl); (case hcs => first | exact sub_map | (apply sub_l; (case hs => exact sub_map); exact lz) | (apply sub_r; (case hl => first | exact (List.length_map _).trans (by assumption) | ((try apply (List.length_map _).trans); (repeat apply List.length_set.trans); assumption) | rfl); (case hk => first | exact off_s | exact off_r (by decide) | exact off_r lz); first | (apply sub_l; (case hs => exact sub_map); exact lz) | exact sub_map)); (case hf => exact fun _ => rfl); (case hl => exact lz); (case hr => exact fun _ => rfl); (case hes => exact sz'); (case hz => first | exact app_map | exact app_nilmap | exact rfl); (case hn => first | exact List.length_map _ | exact rfl); (case hmax => exact lz); (case hb => exact lz); (case hd => exact rfl)) | (apply DR.mk tt; (case ho => with_reducible exact rfl); (case hg => first | exact rfl | exact gd_y rfl rfl rfl (by assumption)); (case hds => exact rfl); (case hx => first | exact evo_ki | exact evo_kb | exact rfl); (case hm => exact rfl); (case hn => exact lz); (case hT => exact rfl); (case hdt => exact rfl); (case hE => exact rfl); (case hdE => exact rfl); (case hne => exact rfl); (case hs => first | exact all_sizes rfl | exact sz'); (case hd => exact rfl)) | (apply DR.sb; (case ho => with_reducible exact rfl); (case hg => exact rfl); (case hds => exact rfl); (case hx => exact rfl); (case hm => exact rfl); (case' hcs => first | exact sub_map | (apply sub_l; (case hs => exact sub_map); exact lz) | (apply sub_r; (case hl => first | exact (List.length_map _).trans (by assumption) | ((try apply (List.length_map _).trans); (repeat apply List.length_set.trans); assumption) | rfl); (case hk => first | exact off_s | exact off_r (by decide) | exact off_r lz); first | (apply sub_l; (case hs => exact sub_map); exact lz) | exact sub_map)); (case hf => exact fun _ => rfl); (case' hc => (first | apply c1 | apply c2 | apply c3 | apply c4 | apply c5 | apply c6 | apply c7 | apply c8 | apply c9 | apply c10 | apply c11 | apply c12 | apply c13 | apply c14 | apply c15 | apply c16)); (case hl => exact lz); (case hr => first | exact rfl | (simp only [V.cells, refsE, refsM, V.refs, V.refs.go, V.pure, V.pure.go, pure_mapq, pure_mapb, pure_mapu, refs_mapq, refs_mapb, refs_mapu, refs_append, Bool.and_true, Bool.true_and, Bool.and_self] <;> exact rfl) | (simp only [V.cells, refsE, refsM, V.refs, V.refs.go, V.pure, V.pure.go, pure_mapq, pure_mapb, pure_mapu, refs_mapq, refs_mapb, refs_mapu, refs_append, Bool.and_true, Bool.true_and, Bool.and_self, hrf] <;> exact rfl) | (simp only [V.cells, refsE, refsM, V.refs, V.refs.go, V.pure, V.pure.go, pure_mapq, pure_mapb, pure_mapu, refs_mapq, refs_mapb, refs_mapu, refs_append, Bool.and_true, Bool.true_and, Bool.and_self, hrf, hrg] <;> exact rfl) | exact lz); (case hn => exact lz); (case hmx => exact lz); (case hp => first | exact rfl | (simp only [V.cells, refsE, refsM, V.refs, V.refs.go, V.pure, V.pure.go, pure_mapq, pure_mapb, pure_mapu, refs_mapq, refs_mapb, refs_mapu, refs_append, Bool.and_true, Bool.true_and, Bool.and_self] <;> exact rfl) | (simp only [V.cells, refsE, refsM, V.refs, V.refs.go, V.pure, V.pure.go, pure_mapq, pure_mapb, pure_mapu, refs_mapq, refs_mapb, refs_mapu, refs_append, Bool.and_true, Bool.true_and, Bool.and_self, hrf] <;> exact rfl) | (simp only [V.cells, refsE, refsM, V.refs, V.refs.go, V.pure, V.pure.go, pure_mapq, pure_mapb, pure_mapu, refs_mapq, refs_mapb, refs_mapu, refs_append, Bool.and_true, Bool.true_and, Bool.and_self, hrf, hrg] <;> exact rfl) | exact lz); (case hd => exact rfl)) | (apply DR.cm; (case hg => first | exact rfl | exact gd_y rfl rfl rfl (by assumption)); (case hds => exact rfl); (case' h => (first | (apply Does.callM; (case ho => with_reducible exact rfl); (case hx => exact rfl); (first | ((case' hc => apply c1); (case hu => first | exact .same _ | exact ft1 rfl | exact ft2 rfl | (apply ft1; simp only [V.cv, V.cv.go, V.cells, cv_mapb, cv_mapq, cv_mapu] <;> rfl))) | ((case' hc => apply c2); (case hu => first | exact .same _ | exact ft1 rfl | exact ft2 rfl | (apply ft1; simp only [V.cv, V.cv.go, V.cells, cv_mapb, cv_mapq, cv_mapu] <;> rfl))) | ((case' hc => apply c3); (case hu => first | exact .same _ | exact ft1 rfl | exact ft2 rfl | (apply ft1; simp only [V.cv, V.cv.go, V.cells, cv_mapb, cv_mapq, cv_mapu] <;> rfl))) | ((case' hc => apply c4); (case hu => first | exact .same _ | exact ft1 rfl | exact ft2 rfl | (apply ft1; simp only [V.cv, V.cv.go, V.cells, cv_mapb, cv_mapq, cv_mapu] <;> rfl))) | ((case' hc => apply c5); (case hu => first | exact .same _ | exact ft1 rfl | exact ft2 rfl | (apply ft1; simp only [V.cv, V.cv.go, V.cells, cv_mapb, cv_mapq, cv_mapu] <;> rfl))) | ((case' hc => apply c6); (case hu => first | exact .same _ | exact ft1 rfl | exact ft2 rfl | (apply ft1; simp only [V.cv, V.cv.go, V.cells, cv_mapb, cv_mapq, cv_mapu] <;> rfl))) | ((case' hc => apply c7); (case hu => first | exact .same _ | exact ft1 rfl | exact ft2 rfl | (apply ft1; simp only [V.cv, V.cv.go, V.cells, cv_mapb, cv_mapq, cv_mapu] <;> rfl))) | ((case' hc => apply c8); (case hu => first | exact .same _ | exact ft1 rfl | exact ft2 rfl | (apply ft1; simp only [V.cv, V.cv.go, V.cells, cv_mapb, cv_mapq, cv_mapu] <;> rfl))) | ((case' hc => apply c9); (case hu => first | exact .same _ | exact ft1 rfl | exact ft2 rfl | (apply ft1; simp only [V.cv, V.cv.go, V.cells, cv_mapb, cv_mapq, cv_mapu] <;> rfl))) | ((case' hc => apply c10); (case hu => first | exact .same _ | exact ft1 rfl | exact ft2 rfl | (apply ft1; simp only [V.cv, V.cv.go, V.cells, cv_mapb, cv_mapq, cv_mapu] <;> rfl))) | ((case' hc => apply c11); (case hu => first | exact .same _ | exact ft1 rfl | exact ft2 rfl | (apply ft1; simp only [V.cv, V.cv.go, V.cells, cv_mapb, cv_mapq, cv_mapu] <;> rfl))) | ((case' hc => apply c12); (case hu => first | exact .same _ | exact ft1 rfl | exact ft2 rfl | (apply ft1; simp only [V.cv, V.cv.go, V.cells, cv_mapb, cv_mapq, cv_mapu] <;> rfl))) | ((case' hc => apply c13); (case hu => first | exact .same _ | exact ft1 rfl | exact ft2 rfl | (apply ft1; simp only [V.cv, V.cv.go, V.cells, cv_mapb, cv_mapq, cv_mapu] <;> rfl))) | ((case' hc => apply c14); (case hu => first | exact .same _ | exact ft1 rfl | exact ft2 rfl | (apply ft1; simp only [V.cv, V.cv.go, V.cells, cv_mapb, cv_mapq, cv_mapu] <;> rfl))) | ((case' hc => apply c15); (case hu => first | exact .same _ | exact ft1 rfl | exact ft2 rfl | (apply ft1; simp only [V.cv, V.cv.go, V.cells, cv_mapb, cv_mapq, cv_mapu] <;> rfl))) | ((case' hc => apply c16); (case hu => first | exact .same _ | exact ft1 rfl | exact ft2 rfl | (apply ft1; simp only [V.cv, V.cv.go, V.cells, cv_mapb, cv_mapq, cv_mapu] <;> rfl)))); (case hr => first | exact rfl | (simp only [V.cells, refsE, refsM, V.refs, V.refs.go, V.pure, V.pure.go, pure_mapq, pure_mapb, pure_mapu, refs_mapq, refs_mapb, refs_mapu, refs_append, Bool.and_true, Bool.true_and, Bool.and_self] <;> exact rfl) | (simp only [V.cells, refsE, refsM, V.refs, V.refs.go, V.pure, V.pure.go, pure_mapq, pure_mapb, pure_mapu, refs_mapq, refs_mapb, refs_mapu, refs_append, Bool.and_true, Bool.true_and, Bool.and_self, hrf] <;> exact rfl) | (simp only [V.cells, refsE, refsM, V.refs, V.refs.go, V.pure, V.pure.go, pure_mapq, pure_mapb, pure_mapu, refs_mapq, refs_mapb, refs_mapu, refs_append, Bool.and_true, Bool.true_and, Bool.and_self, hrf, hrg] <;> exact rfl) | exact lz)) | (apply Does.callFM; (case ho => with_reducible exact rfl); (case hf => exact rfl); (case hx => exact rfl); (first | ((case' hc => apply c1); (case hu => first | exact .same _ | exact ft1 rfl | exact ft2 rfl | (apply ft1; simp only [V.cv, V.cv.go, V.cells, cv_mapb, cv_mapq, cv_mapu] <;> rfl))) | ((case' hc => apply c2); (case hu => first | exact .same _ | exact ft1 rfl | exact ft2 rfl | (apply ft1; simp only [V.cv, V.cv.go, V.cells, cv_mapb, cv_mapq, cv_mapu] <;> rfl))) | ((case' hc => apply c3); (case hu => first | exact .same _ | exact ft1 rfl | exact ft2 rfl | (apply ft1; simp only [V.cv, V.cv.go, V.cells, cv_mapb, cv_mapq, cv_mapu] <;> rfl))) | ((case' hc => apply c4); (case hu => first | exact .same _ | exact ft1 rfl | exact ft2 rfl | (apply ft1; simp only [V.cv, V.cv.go, V.cells, cv_mapb, cv_mapq, cv_mapu] <;> rfl))) | ((case' hc => apply c5); (case hu => first | exact .same _ | exact ft1 rfl | exact ft2 rfl | (apply ft1; simp only [V.cv, V.cv.go, V.cells, cv_mapb, cv_mapq, cv_mapu] <;> rfl))) | ((case' hc => apply c6); (case hu => first | exact .same _ | exact ft1 rfl | exact ft2 rfl | (apply ft1; simp only [V.cv, V.cv.go, V.cells, cv_mapb, cv_mapq, cv_mapu] <;> rfl))) | ((case' hc => apply c7); (case hu => first | exact .same _ | exact ft1 rfl | exact ft2 rfl | (apply ft1; simp only [V.cv, V.cv.go, V.cells, cv_mapb, cv_mapq, cv_mapu] <;> rfl))) | ((case' hc => apply c8); (case hu => first | exact .same _ | exact ft1 rfl | exact ft2 rfl | (apply ft1; simp only [V.cv, V.cv.go, V.cells, cv_mapb, cv_mapq, cv_mapu] <;> rfl))) | ((case' hc => apply c9); (case hu => first | exact .same _ | exact ft1 rfl | exact ft2 rfl | (apply ft1; simp only [V.cv, V.cv.go, V.cells, cv_mapb, cv_mapq, cv_mapu] <;> rfl))) | ((case' hc => apply c10); (case hu => first | exact .same _ | exact ft1 rfl | exact ft2 rfl | (apply ft1; simp only [V.cv, V.cv.go, V.cells, cv_mapb, cv_mapq, cv_mapu] <;> rfl))) | ((case' hc => apply c11); (case hu => first | exact .same _ | exact ft1 rfl | exact ft2 rfl | (apply ft1; simp only [V.cv, V.cv.go, V.cells, cv_mapb, cv_mapq, cv_mapu] <;> rfl))) | ((case' hc => apply c12); (case hu => first | exact .same _ | exact ft1 rfl | exact ft2 rfl | (apply ft1; simp only [V.cv, V.cv.go, V.cells, cv_mapb, cv_mapq, cv_mapu] <;> rfl))) | ((case' hc => apply c13); (case hu => first | exact .same _ | exact ft1 rfl | exact ft2 rfl | (apply ft1; simp only [V.cv, V.cv.go, V.cells, cv_mapb, cv_mapq, cv_mapu] <;> rfl))) | ((case' hc => apply c14); (case hu => first | exact .same _ | exact ft1 rfl | exact ft2 rfl | (apply ft1; simp only [V.cv, V.cv.go, V.cells, cv_mapb, cv_mapq, cv_mapu] <;> rfl))) | ((case' hc => apply c15); (case hu => first | exact .same _ | exact ft1 rfl | exact ft2 rfl | (apply ft1; simp only [V.cv, V.cv.go, V.cells, cv_mapb, cv_mapq, cv_mapu] <;> rfl))) | ((case' hc => apply c16); (case hu => first | exact .same _ | exact ft1 rfl | exact ft2 rfl | (apply ft1; simp only [V.cv, V.cv.go, V.cells, cv_mapb, cv_mapq, cv_mapu] <;> rfl)))); (case hr => first | exact rfl | (simp only [V.cells, refsE, refsM, V.refs, V.refs.go, V.pure, V.pure.go, pure_mapq, pure_mapb, pure_mapu, refs_mapq, refs_mapb, refs_mapu, refs_append, Bool.and_true, Bool.true_and, Bool.and_self] <;> exact rfl) | (simp only [V.cells, refsE, refsM, V.refs, V.refs.go, V.pure, V.pure.go, pure_mapq, pure_mapb, pure_mapu, refs_mapq, refs_mapb, refs_mapu, refs_append, Bool.and_true, Bool.true_and, Bool.and_self, hrf] <;> exact rfl) | (simp only [V.cells, refsE, refsM, V.refs, V.refs.go, V.pure, V.pure.go, pure_mapq, pure_mapb, pure_mapu, refs_mapq, refs_mapb, refs_mapu, refs_append, Bool.and_true, Bool.true_and, Bool.and_self, hrf, hrg] <;> exact rfl) | exact lz)))); (case ht => first | exact True.intro | exact And.intro rfl True.intro | exact And.intro rfl (And.intro rfl True.intro) | exact And.intro rfl (And.intro rfl (And.intro rfl True.intro)) | exact And.intro rfl (And.intro rfl (And.intro rfl (And.intro rfl True.intro)))); (case hd => exact rfl)) | (apply DR.cz; (case hg => first | exact rfl | exact gd_y rfl rfl rfl (by assumption)); (case hds => exact rfl); (case' h => (first | (apply Does.callM; (case ho => with_reducible exact rfl); (case hx => exact rfl); (first | ((case' hc => apply c1); (case hu => first | exact .same _ | exact ft1 rfl | exact ft2 rfl | (apply ft1; simp only [V.cv, V.cv.go, V.cells, cv_mapb, cv_mapq, cv_mapu] <;> rfl))) | ((case' hc => apply c2); (case hu => first | exact .same _ | exact ft1 rfl | exact ft2 rfl | (apply ft1; simp only [V.cv, V.cv.go, V.cells, cv_mapb, cv_mapq, cv_mapu] <;> rfl))) | ((case' hc => apply c3); (case hu => first | exact .same _ | exact ft1 rfl | exact ft2 rfl | (apply ft1; simp only [V.cv, V.cv.go, V.cells, cv_mapb, cv_mapq, cv_mapu] <;> rfl))) | ((case' hc => apply c4); (case hu => first | exact .same _ | exact ft1 rfl | exact ft2 rfl | (apply ft1; simp only [V.cv, V.cv.go, V.cells, cv_mapb, cv_mapq, cv_mapu] <;> rfl))) | ((case' hc => apply c5); (case hu => first | exact .same _ | exact ft1 rfl | exact ft2 rfl | (apply ft1; simp only [V.cv, V.cv.go, V.cells, cv_mapb, cv_mapq, cv_mapu] <;> rfl))) | ((case' hc => apply c6); (case hu => first | exact .same _ | exact ft1 rfl | exact ft2 rfl | (apply ft1; simp only [V.cv, V.cv.go, V.cells, cv_mapb, cv_mapq, cv_mapu] <;> rfl))) | ((case' hc => apply c7); (case hu => first | exact .same _ | exact ft1 rfl | exact ft2 rfl | (apply ft1; simp only [V.cv, V.cv.go, V.cells, cv_mapb, cv_mapq, cv_mapu] <;> rfl))) | ((case' hc => apply c8); (case hu => first | exact .same _ | exact ft1 rfl | exact ft2 rfl | (apply ft1; simp only [V.cv, V.cv.go, V.cells, cv_mapb, cv_mapq, cv_mapu] <;> rfl))) | ((case' hc => apply c9); (case hu => first | exact .same _ | exact ft1 rfl | exact ft2 rfl | (apply ft1; simp only [V.cv, V.cv.go, V.cells, cv_mapb, cv_mapq, cv_mapu] <;> rfl))) | ((case' hc => apply c10); (case hu => first | exact .same _ | exact ft1 rfl | exact ft2 rfl | (apply ft1; simp only [V.cv, V.cv.go, V.cells, cv_mapb, cv_mapq, cv_mapu] <;> rfl))) | ((case' hc => apply c11); (case hu => first | exact .same _ | exact ft1 rfl | exact ft2 rfl | (apply ft1; simp only [V.cv, V.cv.go, V.cells, cv_mapb, cv_mapq, cv_mapu] <;> rfl))) | ((case' hc => apply c12); (case hu => first | exact .same _ | exact ft1 rfl | exact ft2 rfl | (apply ft1; simp only [V.cv, V.cv.go, V.cells, cv_mapb, cv_mapq, cv_mapu] <;> rfl))) | ((case' hc => apply c13); (case hu => first | exact .same _ | exact ft1 rfl | exact ft2 rfl | (apply ft1; simp only [V.cv, V.cv.go, V.cells, cv_mapb, cv_mapq, cv_mapu] <;> rfl))) | ((case' hc => apply c14); (case hu => first | exact .same _ | exact ft1 rfl | exact ft2 rfl | (apply ft1; simp only [V.cv, V.cv.go, V.cells, cv_mapb, cv_mapq, cv_mapu] <;> rfl))) | ((case' hc => apply c15); (case hu => first | exact .same _ | exact ft1 rfl | exact ft2 rfl | (apply ft1; simp only [V.cv, V.cv.go, V.cells, cv_mapb, cv_mapq, cv_mapu] <;> rfl))) | ((case' hc => apply c16); (case hu => first | exact .same _ | exact ft1 rfl | exact ft2 rfl | (apply ft1; simp only [V.cv, V.cv.go, V.cells, cv_mapb, cv_mapq, cv_mapu] <;> rfl)))); (case hr => first | exact rfl | (simp only [V.cells, refsE, refsM, V.refs, V.refs.go, V.pure, V.pure.go, pure_mapq, pure_mapb, pure_mapu, refs_mapq, refs_mapb, refs_mapu, refs_append, Bool.and_true, Bool.true_and, Bool.and_self] <;> exact rfl) | (simp only [V.cells, refsE, refsM, V.refs, V.refs.go, V.pure, V.pure.go, pure_mapq, pure_mapb, pure_mapu, refs_mapq, refs_mapb, refs_mapu, refs_append, Bool.and_true, Bool.true_and, Bool.and_self, hrf] <;> exact rfl) | (simp only [V.cells, refsE, refsM, V.refs, V.refs.go, V.pure, V.pure.go, pure_mapq, pure_mapb, pure_mapu, refs_mapq, refs_mapb, refs_mapu, refs_append, Bool.and_true, Bool.true_and, Bool.and_self, hrf, hrg] <;> exact rfl) | exact lz)) | (apply Does.callFM; (case ho => with_reducible exact rfl); (case hf => exact rfl); (case hx => exact rfl); (first | ((case' hc => apply c1); (case hu => first | exact .same _ | exact ft1 rfl | exact ft2 rfl | (apply ft1; simp only [V.cv, V.cv.go, V.cells, cv_mapb, cv_mapq, cv_mapu] <;> rfl))) | ((case' hc => apply c2); (case hu => first | exact .same _ | exact ft1 rfl | exact ft2 rfl | (apply ft1; simp only [V.cv, V.cv.go, V.cells, cv_mapb, cv_mapq, cv_mapu] <;> rfl))) | ((case' hc => apply c3); (case hu => first | exact .same _ | exact ft1 rfl | exact ft2 rfl | (apply ft1; simp only [V.cv, V.cv.go, V.cells, cv_mapb, cv_mapq, cv_mapu] <;> rfl))) | ((case' hc => apply c4); (case hu => first | exact .same _ | exact ft1 rfl | exact ft2 rfl | (apply ft1; simp only [V.cv, V.cv.go, V.cells, cv_mapb, cv_mapq, cv_mapu] <;> rfl))) | ((case' hc => apply c5); (case hu => first | exact .same _ | exact ft1 rfl | exact ft2 rfl | (apply ft1; simp only [V.cv, V.cv.go, V.cells, cv_mapb, cv_mapq, cv_mapu] <;> rfl))) | ((case' hc => apply c6); (case hu => first | exact .same _ | exact ft1 rfl | exact ft2 rfl | (apply ft1; simp only [V.cv, V.cv.go, V.cells, cv_mapb, cv_mapq, cv_mapu] <;> rfl))) | ((case' hc => apply c7); (case hu => first | exact .same _ | exact ft1 rfl | exact ft2 rfl | (apply ft1; simp only [V.cv, V.cv.go, V.cells, cv_mapb, cv_mapq, cv_mapu] <;> rfl))) | ((case' hc => apply c8); (case hu => first | exact .same _ | exact ft1 rfl | exact ft2 rfl | (apply ft1; simp only [V.cv, V.cv.go, V.cells, cv_mapb, cv_mapq, cv_mapu] <;> rfl))) | ((case' hc => apply c9); (case hu => first | exact .same _ | exact ft1 rfl | exact ft2 rfl | (apply ft1; simp only [V.cv, V.cv.go, V.cells, cv_mapb, cv_mapq, cv_mapu] <;> rfl))) | ((case' hc => apply c10); (case hu => first | exact .same _ | exact ft1 rfl | exact ft2 rfl | (apply ft1; simp only [V.cv, V.cv.go, V.cells, cv_mapb, cv_mapq, cv_mapu] <;> rfl))) | ((case' hc => apply c11); (case hu => first | exact .same _ | exact ft1 rfl | exact ft2 rfl | (apply ft1; simp only [V.cv, V.cv.go, V.cells, cv_mapb, cv_mapq, cv_mapu] <;> rfl))) | ((case' hc => apply c12); (case hu => first | exact .same _ | exact ft1 rfl | exact ft2 rfl | (apply ft1; simp only [V.cv, V.cv.go, V.cells, cv_mapb, cv_mapq, cv_mapu] <;> rfl))) | ((case' hc => apply c13); (case hu => first | exact .same _ | exact ft1 rfl | exact ft2 rfl | (apply ft1; simp only [V.cv, V.cv.go, V.cells, cv_mapb, cv_mapq, cv_mapu] <;> rfl))) | ((case' hc => apply c14); (case hu => first | exact .same _ | exact ft1 rfl | exact ft2 rfl | (apply ft1; simp only [V.cv, V.cv.go, V.cells, cv_mapb, cv_mapq, cv_mapu] <;> rfl))) | ((case' hc => apply c15); (case hu => first | exact .same _ | exact ft1 rfl | exact ft2 rfl | (apply ft1; simp only [V.cv, V.cv.go, V.cells, cv_mapb, cv_mapq, cv_mapu] <;> rfl))) | ((case' hc => apply c16); (case hu => first | exact .same _ | exact ft1 rfl | exact ft2 rfl | (apply ft1; simp only [V.cv, V.cv.go, V.cells, cv_mapb, cv_mapq, cv_mapu] <;> rfl)))); (case hr => first | exact rfl | (simp only [V.cells, refsE, refsM, V.refs, V.refs.go, V.pure, V.pure.go, pure_mapq, pure_mapb, pure_mapu, refs_mapq, refs_mapb, refs_mapu, refs_append, Bool.and_true, Bool.true_and, Bool.and_self] <;> exact rfl) | (simp only [V.cells, refsE, refsM, V.refs, V.refs.go, V.pure, V.pure.go, pure_mapq, pure_mapb, pure_mapu, refs_mapq, refs_mapb, refs_mapu, refs_append, Bool.and_true, Bool.true_and, Bool.and_self, hrf] <;> exact rfl) | (simp only [V.cells, refsE, refsM, V.refs, V.refs.go, V.pure, V.pure.go, pure_mapq, pure_mapb, pure_mapu, refs_mapq, refs_mapb, refs_mapu, refs_append, Bool.and_true, Bool.true_and, Bool.and_self, hrf, hrg] <;> exact rfl) | exact lz)))); (case ht => first | exact True.intro | exact And.intro rfl True.intro | exact And.intro rfl (And.intro rfl True.intro) | exact And.intro rfl (And.intro rfl (And.intro rfl True.intro)) | exact And.intro rfl (And.intro rfl (And.intro rfl (And.intro rfl True.intro))))) | (apply DR.gD; (case hg => first | exact rfl | exact gd_y rfl rfl rfl (by assumption)); (case hds => exact rfl); (case hu => exact rfl); (case h => (first | (apply Does.lss; (case ho => with_reducible exact rfl); (case hx => exact rfl); (case hy => exact rfl); (case hr => exact rfl)) | (apply Does.eql; (case ho => with_reducible exact rfl); (case hx => exact rfl); (case hy => exact rfl); (case hr => exact rfl)) | (apply Does.neq; (case ho => with_reducible exact rfl); (case hx => exact rfl); (case hy => exact rfl); (case hr => exact rfl)) | (apply Does.leq; (case ho => with_reducible exact rfl); (case hx => exact rfl); (case hy => exact rfl); (case hr => exact rfl)) | (apply Does.gtr; (case ho => with_reducible exact rfl); (case hx => exact rfl); (case hy => exact rfl); (case hr => exact rfl)) | (apply Does.geq; (case ho => with_reducible exact rfl); (case hx => exact rfl); (case hy => exact rfl); (case hr => exact rfl)) | (apply Does.eqInts bK_inj tt; (case ho => with_reducible exact rfl); (case hx => first | exact evo_ki | exact evo_kb | exact rfl); (case hy => first | exact evo_ki | exact evo_kb | exact rfl); (case hT => exact rfl); (case hd => exact rfl); (case hE => exact rfl); (case he => exact rfl); (case hs => exact rfl); (case hl => exact lz); (case hm => exact lz); (case hr' => exact rfl)) | (apply Does.eqInts qK_inj tt; (case ho => with_reducible exact rfl); (case hx => first | exact evo_ki | exact evo_kb | exact rfl); (case hy => first | exact evo_ki | exact evo_kb | exact rfl); (case hT => exact rfl); (case hd => exact rfl); (case hE => exact rfl); (case he => exact rfl); (case hs => exact rfl); (case hl => exact lz); (case hm => exact lz); (case hr' => exact rfl)) | (apply Does.eqInts uK_inj tt; (case ho => with_reducible exact rfl); (case hx => first | exact evo_ki | exact evo_kb | exact rfl); (case hy => first | exact evo_ki | exact evo_kb | exact rfl); (case hT => exact rfl); (case hd => exact rfl); (case hE => exact rfl); (case he => exact rfl); (case hs => exact rfl); (case hl => exact lz); (case hm => exact lz); (case hr' => exact rfl)) | (apply Does.eqInts (m := List.replicate 4 0) uK_inj tt; (case ho => with_reducible exact rfl); (case hx => first | exact evo_ki | exact evo_kb | exact rfl); (case hy => first | exact evo_ki | exact evo_kb | exact rfl); (case hT => exact rfl); (case hd => exact rfl); (case hE => exact rfl); (case he => exact rfl); (case hs => exact rfl); (case hl => exact lz); (case hm => exact lz); (case hr' => exact rfl)) | (apply Does.eqInts (m := List.replicate 32 0) bK_inj tt; (case ho => with_reducible exact rfl); (case hx => first | exact evo_ki | exact evo_kb | exact rfl); (case hy => first | exact evo_ki | exact evo_kb | exact rfl); (case hT => exact rfl); (case hd => exact rfl); (case hE => exact rfl); (case he => exact rfl); (case hs => exact rfl); (case hl => exact lz); (case hm => exact lz); (case hr' => exact rfl)) | (apply Does.eqInts (m := List.replicate 8 0) qK_inj tt; (case ho => with_reducible exact rfl); (case hx => first | exact evo_ki | exact evo_kb | exact rfl); (case hy => first | exact evo_ki | exact evo_kb | exact rfl); (case hT => exact rfl); (case hd => exact rfl); (case hE => exact rfl); (case he => exact rfl); (case hs => exact rfl); (case hl => exact lz); (case hm => exact lz); (case hr' => exact rfl)) | (apply Does.eqInts (m := List.replicate 8 0) bK_inj tt; (case ho => with_reducible exact rfl); (case hx => first | exact evo_ki | exact evo_kb | exact rfl); (case hy => first | exact evo_ki | exact evo_kb | exact rfl); (case hT => exact rfl); (case hd => exact rfl); (case hE => exact rfl); (case he => exact rfl); (case hs => exact rfl); (case hl => exact lz); (case hm => exact lz); (case hr' => exact rfl)) | (apply Does.neInts bK_inj tt; (case ho => with_reducible exact rfl); (case hx => first | exact evo_ki | exact evo_kb | exact rfl); (case hy => first | exact evo_ki | exact evo_kb | exact rfl); (case hT => exact rfl); (case hd => exact rfl); (case hE => exact rfl); (case he => exact rfl); (case hs => exact rfl); (case hl => exact lz); (case hm => exact lz); (case hr' => exact rfl)) | (apply Does.neInts qK_inj tt; (case ho => with_reducible exact rfl); (case hx => first | exact evo_ki | exact evo_kb | exact rfl); (case hy => first | exact evo_ki | exact evo_kb | exact rfl); (case hT => exact rfl); (case hd => exact rfl); (case hE => exact rfl); (case he => exact rfl); (case hs => exact rfl); (case hl => exact lz); (case hm => exact lz); (case hr' => exact rfl)) | (apply Does.neInts uK_inj tt; (case ho => with_reducible exact rfl); (case hx => first | exact evo_ki | exact evo_kb | exact rfl); (case hy => first | exact evo_ki | exact evo_kb | exact rfl); (case hT => exact rfl); (case hd => exact rfl); (case hE => exact rfl); (case he => exact rfl); (case hs => exact rfl); (case hl => exact lz); (case hm => exact lz); (case hr' => exact rfl)) | (apply Does.neInts (m := List.replicate 4 0) uK_inj tt; (case ho => with_reducible exact rfl); (case hx => first | exact evo_ki | exact evo_kb | exact rfl); (case hy => first | exact evo_ki | exact evo_kb | exact rfl); (case hT => exact rfl); (case hd => exact rfl); (case hE => exact rfl); (case he => exact rfl); (case hs => exact rfl); (case hl => exact lz); (case hm => exact lz); (case hr' => exact rfl)) | (apply Does.neInts (m := List.replicate 32 0) bK_inj tt; (case ho => with_reducible exact rfl); (case hx => first | exact evo_ki | exact evo_kb | exact rfl); (case hy => first | exact evo_ki | exact evo_kb | exact rfl); (case hT => exact rfl); (case hd => exact rfl); (case hE => exact rfl); (case he => exact rfl); (case hs => exact rfl); (case hl => exact lz); (case hm => exact lz); (case hr' => exact rfl)) | (apply Does.neInts (m := List.replicate 8 0) qK_inj tt; (case ho => with_reducible exact rfl); (case hx => first | exact evo_ki | exact evo_kb | exact rfl); (case hy => first | exact evo_ki | exact evo_kb | exact rfl); (case hT => exact rfl); (case hd => exact rfl); (case hE => exact rfl); (case he => exact rfl); (case hs => exact rfl); (case hl => exact lz); (case hm => exact lz); (case hr' => exact rfl)) | (apply Does.neInts (m := List.replicate 8 0) bK_inj tt; (case ho => with_reducible exact rfl); (case hx => first | exact evo_ki | exact evo_kb | exact rfl); (case hy => first | exact evo_ki | exact evo_kb | exact rfl); (case hT => exact rfl); (case hd => exact rfl); (case hE => exact rfl); (case he => exact rfl); (case hs => exact rfl); (case hl => exact lz); (case hm => exact lz); (case hr' => exact rfl)))); (case hd => exact rfl)) | (apply DR.gB; (case hg => first | exact rfl | exact gd_y rfl rfl rfl (by assumption)); (case hds => exact rfl); (case hu => exact rfl); (case h => (first | (apply Does.eqB tt; (case ho => with_reducible exact rfl); (case hx => first | exact evo_ki | exact evo_kb | exact rfl); (case hy => first | exact evo_ki | exact evo_kb | exact rfl); (case hT => exact rfl); (case hd => exact rfl)) | (apply Does.neB tt; (case ho => with_reducible exact rfl); (case hx => first | exact evo_ki | exact evo_kb | exact rfl); (case hy => first | exact evo_ki | exact evo_kb | exact rfl); (case hT => exact rfl); (case hd => exact rfl)) | (apply Does.arithS; (case ho => with_reducible exact rfl); (case hx => first | exact evo_ki | exact evo_kb | exact rfl); (case hy => first | exact evo_ki | exact evo_kb | exact rfl); (case hr => first | with_reducible assumption | exact rfl)) | (apply Does.call; (case ho => with_reducible exact rfl); (case hx => exact rfl); (first | ((case' hc => apply c1); (case hu => first | exact .same _ | exact ft1 rfl | exact ft2 rfl | (apply ft1; simp only [V.cv, V.cv.go, V.cells, cv_mapb, cv_mapq, cv_mapu] <;> rfl))) | ((case' hc => apply c2); (case hu => first | exact .same _ | exact ft1 rfl | exact ft2 rfl | (apply ft1; simp only [V.cv, V.cv.go, V.cells, cv_mapb, cv_mapq, cv_mapu] <;> rfl))) | ((case' hc => apply c3); (case hu => first | exact .same _ | exact ft1 rfl | exact ft2 rfl | (apply ft1; simp only [V.cv, V.cv.go, V.cells, cv_mapb, cv_mapq, cv_mapu] <;> rfl))) | ((case' hc => apply c4); (case hu => first | exact .same _ | exact ft1 rfl | exact ft2 rfl | (apply ft1; simp only [V.cv, V.cv.go, V.cells, cv_mapb, cv_mapq, cv_mapu] <;> rfl))) | ((case' hc => apply c5); (case hu => first | exact .same _ | exact ft1 rfl | exact ft2 rfl | (apply ft1; simp only [V.cv, V.cv.go, V.cells, cv_mapb, cv_mapq, cv_mapu] <;> rfl))) | ((case' hc => apply c6); (case hu => first | exact .same _ | exact ft1 rfl | exact ft2 rfl | (apply ft1; simp only [V.cv, V.cv.go, V.cells, cv_mapb, cv_mapq, cv_mapu] <;> rfl))) | ((case' hc => apply c7); (case hu => first | exact .same _ | exact ft1 rfl | exact ft2 rfl | (apply ft1; simp only [V.cv, V.cv.go, V.cells, cv_mapb, cv_mapq, cv_mapu] <;> rfl))) | ((case' hc => apply c8); (case hu => first | exact .same _ | exact ft1 rfl | exact ft2 rfl | (apply ft1; simp only [V.cv, V.cv.go, V.cells, cv_mapb, cv_mapq, cv_mapu] <;> rfl))) | ((case' hc => apply c9); (case hu => first | exact .same _ | exact ft1 rfl | exact ft2 rfl | (apply ft1; simp only [V.cv, V.cv.go, V.cells, cv_mapb, cv_mapq, cv_mapu] <;> rfl))) | ((case' hc => apply c10); (case hu => first | exact .same _ | exact ft1 rfl | exact ft2 rfl | (apply ft1; simp only [V.cv, V.cv.go, V.cells, cv_mapb, cv_mapq, cv_mapu] <;> rfl))) | ((case' hc => apply c11); (case hu => first | exact .same _ | exact ft1 rfl | exact ft2 rfl | (apply ft1; simp only [V.cv, V.cv.go, V.cells, cv_mapb, cv_mapq, cv_mapu] <;> rfl))) | ((case' hc => apply c12); (case hu => first | exact .same _ | exact ft1 rfl | exact ft2 rfl | (apply ft1; simp only [V.cv, V.cv.go, V.cells, cv_mapb, cv_mapq, cv_mapu] <;> rfl))) | ((case' hc => apply c13); (case hu => first | exact .same _ | exact ft1 rfl | exact ft2 rfl | (apply ft1; simp only [V.cv, V.cv.go, V.cells, cv_mapb, cv_mapq, cv_mapu] <;> rfl))) | ((case' hc => apply c14); (case hu => first | exact .same _ | exact ft1 rfl | exact ft2 rfl | (apply ft1; simp only [V.cv, V.cv.go, V.cells, cv_mapb, cv_mapq, cv_mapu] <;> rfl))) | ((case' hc => apply c15); (case hu => first | exact .same _ | exact ft1 rfl | exact ft2 rfl | (apply ft1; simp only [V.cv, V.cv.go, V.cells, cv_mapb, cv_mapq, cv_mapu] <;> rfl))) | ((case' hc => apply c16); (case hu => first | exact .same _ | exact ft1 rfl | exact ft2 rfl | (apply ft1; simp only [V.cv, V.cv.go, V.cells, cv_mapb, cv_mapq, cv_mapu] <;> rfl)))); (case hr => first | exact rfl | (simp only [V.cells, refsE, refsM, V.refs, V.refs.go, V.pure, V.pure.go, pure_mapq, pure_mapb, pure_mapu, refs_mapq, refs_mapb, refs_mapu, refs_append, Bool.and_true, Bool.true_and, Bool.and_self] <;> exact rfl) | (simp only [V.cells, refsE, refsM, V.refs, V.refs.go, V.pure, V.pure.go, pure_mapq, pure_mapb, pure_mapu, refs_mapq, refs_mapb, refs_mapu, refs_append, Bool.and_true, Bool.true_and, Bool.and_self, hrf] <;> exact rfl) | (simp only [V.cells, refsE, refsM, V.refs, V.refs.go, V.pure, V.pure.go, pure_mapq, pure_mapb, pure_mapu, refs_mapq, refs_mapb, refs_mapu, refs_append, Bool.and_true, Bool.true_and, Bool.and_self, hrf, hrg] <;> exact rfl) | exact lz); all_goals exact lz))); (case hd => exact rfl)) | (apply DR.pp; (case hg => first | exact rfl | exact gd_y rfl rfl rfl (by assumption)); (case hds => exact rfl); (case h => (apply Does.gB; (case ho => with_reducible exact rfl); (case h => (first | (apply Does.lss; (case ho => with_reducible exact rfl); (case hx => exact rfl); (case hy => exact rfl); (case hr => exact rfl)) | (apply Does.eql; (case ho => with_reducible exact rfl); (case hx => exact rfl); (case hy => exact rfl); (case hr => exact rfl)) | (apply Does.neq; (case ho => with_reducible exact rfl); (case hx => exact rfl); (case hy => exact rfl); (case hr => exact rfl)) | (apply Does.leq; (case ho => with_reducible exact rfl); (case hx => exact rfl); (case hy => exact rfl); (case hr => exact rfl)) | (apply Does.gtr; (case ho => with_reducible exact rfl); (case hx => exact rfl); (case hy => exact rfl); (case hr => exact rfl)) | (apply Does.geq; (case ho => with_reducible exact rfl); (case hx => exact rfl); (case hy => exact rfl); (case hr => exact rfl)) | (apply Does.eqInts bK_inj tt; (case ho => with_reducible exact rfl); (case hx => first | exact evo_ki | exact evo_kb | exact rfl); (case hy => first | exact evo_ki | exact evo_kb | exact rfl); (case hT => exact rfl); (case hd => exact rfl); (case hE => exact rfl); (case he => exact rfl); (case hs => exact rfl); (case hl => exact lz); (case hm => exact lz); (case hr' => exact rfl)) | (apply Does.eqInts qK_inj tt; (case ho => with_reducible exact rfl); (case hx => first | exact evo_ki | exact evo_kb | exact rfl); (case hy => first | exact evo_ki | exact evo_kb | exact rfl); (case hT => exact rfl); (case hd => exact rfl); (case hE => exact rfl); (case he => exact rfl); (case hs => exact rfl); (case hl => exact lz); (case hm => exact lz); (case hr' => exact rfl)) | (apply Does.eqInts uK_inj tt; (case ho => with_reducible exact rfl); (case hx => first | exact evo_ki | exact evo_kb | exact rfl); (case hy => first | exact evo_ki | exact evo_kb | exact rfl); (case hT => exact rfl); (case hd => exact rfl); (case hE => exact rfl); (case he => exact rfl); (case hs => exact rfl); (case hl => exact lz); (case hm => exact lz); (case hr' => exact rfl)) | (apply Does.eqInts (m := List.replicate 4 0) uK_inj tt; (case ho => with_reducible exact rfl); (case hx => first | exact evo_ki | exact evo_kb | exact rfl); (case hy => first | exact evo_ki | exact evo_kb | exact rfl); (case hT => exact rfl); (case hd => exact rfl); (case hE => exact rfl); (case he => exact rfl); (case hs => exact rfl); (case hl => exact lz); (case hm => exact lz); (case hr' => exact rfl)) | (apply Does.eqInts (m := List.replicate 32 0) bK_inj tt; (case ho => with_reducible exact rfl); (case hx => first | exact evo_ki | exact evo_kb | exact rfl); (case hy => first | exact evo_ki | exact evo_kb | exact rfl); (case hT => exact rfl); (case hd => exact rfl); (case hE => exact rfl); (case he => exact rfl); (case hs => exact rfl); (case hl => exact lz); (case hm => exact lz); (case hr' => exact rfl)) | (apply Does.eqInts (m := List.replicate 8 0) qK_inj tt; (case ho => with_reducible exact rfl); (case hx => first | exact evo_ki | exact evo_kb | exact rfl); (case hy => first | exact evo_ki | exact evo_kb | exact rfl); (case hT => exact rfl); (case hd => exact rfl); (case hE => exact rfl); (case he => exact rfl); (case hs => exact rfl); (case hl => exact lz); (case hm => exact lz); (case hr' => exact rfl)) | (apply Does.eqInts (m := List.replicate 8 0) bK_inj tt; (case ho => with_reducible exact rfl); (case hx => first | exact evo_ki | exact evo_kb | exact rfl); (case hy => first | exact evo_ki | exact evo_kb | exact rfl); (case hT => exact rfl); (case hd => exact rfl); (case hE => exact rfl); (case he => exact rfl); (case hs => exact rfl); (case hl => exact lz); (case hm => exact lz); (case hr' => exact rfl)) | (apply Does.neInts bK_inj tt; (case ho => with_reducible exact rfl); (case hx => first | exact evo_ki | exact evo_kb | exact rfl); (case hy => first | exact evo_ki | exact evo_kb | exact rfl); (case hT => exact rfl); (case hd => exact rfl); (case hE => exact rfl); (case he => exact rfl); (case hs => exact rfl); (case hl => exact lz); (case hm => exact lz); (case hr' => exact rfl)) | (apply Does.neInts qK_inj tt; (case ho => with_reducible exact rfl); (case hx => first | exact evo_ki | exact evo_kb | exact rfl); (case hy => first | exact evo_ki | exact evo_kb | exact rfl); (case hT => exact rfl); (case hd => exact rfl); (case hE => exact rfl); (case he => exact rfl); (case hs => exact rfl); (case hl => exact lz); (case hm => exact lz); (case hr' => exact rfl)) | (apply Does.neInts uK_inj tt; (case ho => with_reducible exact rfl); (case hx => first | exact evo_ki | exact evo_kb | exact rfl); (case hy => first | exact evo_ki | exact evo_kb | exact rfl); (case hT => exact rfl); (case hd => exact rfl); (case hE => exact rfl); (case he => exact rfl); (case hs => exact rfl); (case hl => exact lz); (case hm => exact lz); (case hr' => exact rfl)) | (apply Does.neInts (m := List.replicate 4 0) uK_inj tt; (case ho => with_reducible exact rfl); (case hx => first | exact evo_ki | exact evo_kb | exact rfl); (case hy => first | exact evo_ki | exact evo_kb | exact rfl); (case hT => exact rfl); (case hd => exact rfl); (case hE => exact rfl); (case he => exact rfl); (case hs => exact rfl); (case hl => exact lz); (case hm => exact lz); (case hr' => exact rfl)) | (apply Does.neInts (m := List.replicate 32 0) bK_inj tt; (case ho => with_reducible exact rfl); (case hx => first | exact evo_ki | exact evo_kb | exact rfl); (case hy => first | exact evo_ki | exact evo_kb | exact rfl); (case hT => exact rfl); (case hd => exact rfl); (case hE => exact rfl); (case he => exact rfl); (case hs => exact rfl); (case hl => exact lz); (case hm => exact lz); (case hr' => exact rfl)) | (apply Does.neInts (m := List.replicate 8 0) qK_inj tt; (case ho => with_reducible exact rfl); (case hx => first | exact evo_ki | exact evo_kb | exact rfl); (case hy => first | exact evo_ki | exact evo_kb | exact rfl); (case hT => exact rfl); (case hd => exact rfl); (case hE => exact rfl); (case he => exact rfl); (case hs => exact rfl); (case hl => exact lz); (case hm => exact lz); (case hr' => exact rfl)) | (apply Does.neInts (m := List.replicate 8 0) bK_inj tt; (case ho => with_reducible exact rfl); (case hx => first | exact evo_ki | exact evo_kb | exact rfl); (case hy => first | exact evo_ki | exact evo_kb | exact rfl); (case hT => exact rfl); (case hd => exact rfl); (case hE => exact rfl); (case he => exact rfl); (case hs => exact rfl); (case hl => exact lz); (case hm => exact lz); (case hr' => exact rfl)) | (apply Does.eqB tt; (case ho => with_reducible exact rfl); (case hx => first | exact evo_ki | exact evo_kb | exact rfl); (case hy => first | exact evo_ki | exact evo_kb | exact rfl); (case hT => exact rfl); (case hd => exact rfl)) | (apply Does.neB tt; (case ho => with_reducible exact rfl); (case hx => first | exact evo_ki | exact evo_kb | exact rfl); (case hy => first | exact evo_ki | exact evo_kb | exact rfl); (case hT => exact rfl); (case hd => exact rfl)) | (apply Does.arithS; (case ho => with_reducible exact rfl); (case hx => first | exact evo_ki | exact evo_kb | exact rfl); (case hy => first | exact evo_ki | exact evo_kb | exact rfl); (case hr => first | with_reducible assumption | exact rfl)))))); (case hd => exact rfl)) | (apply LC.pan3; (case _ho => with_reducible exact rfl)) | (apply LC.pan1; (case _ho => with_reducible exact rfl)) | (apply LS.panic; (case ho => with_reducible exact rfl); (case hg => exact rfl); (case hx => exact rfl)) | (apply LS.panC; (case ho => with_reducible exact rfl); (case hg => exact rfl); (case hx => exact rfl); (first | ((case' hc => apply p1); (case hu => first | exact .same _ | exact ft1 rfl | exact ft2 rfl | (apply ft1; simp only [V.cv, V.cv.go, V.cells, cv_mapb, cv_mapq, cv_mapu] <;> rfl))) | ((case' hc => apply p2); (case hu => first | exact .same _ | exact ft1 rfl | exact ft2 rfl | (apply ft1; simp only [V.cv, V.cv.go, V.cells, cv_mapb, cv_mapq, cv_mapu] <;> rfl))) | ((case' hc => apply p3); (case hu => first | exact .same _ | exact ft1 rfl | exact ft2 rfl | (apply ft1; simp only [V.cv, V.cv.go, V.cells, cv_mapb, cv_mapq, cv_mapu] <;> rfl)))); (case hr => first | exact rfl | (simp only [V.cells, refsE, refsM, V.refs, V.refs.go, V.pure, V.pure.go, pure_mapq, pure_mapb, pure_mapu, refs_mapq, refs_mapb, refs_mapu, refs_append, Bool.and_true, Bool.true_and, Bool.and_self] <;> exact rfl) | (simp only [V.cells, refsE, refsM, V.refs, V.refs.go, V.pure, V.pure.go, pure_mapq, pure_mapb, pure_mapu, refs_mapq, refs_mapb, refs_mapu, refs_append, Bool.and_true, Bool.true_and, Bool.and_self, hrf] <;> exact rfl) | (simp only [V.cells, refsE, refsM, V.refs, V.refs.go, V.pure, V.pure.go, pure_mapq, pure_mapb, pure_mapu, refs_mapq, refs_mapb, refs_mapu, refs_append, Bool.and_true, Bool.true_and, Bool.and_self, hrf, hrg] <;> exact rfl) | exact lz); (case ht => first | exact True.intro | exact And.intro rfl True.intro | exact And.intro rfl (And.intro rfl True.intro) | exact And.intro rfl (And.intro rfl (And.intro rfl True.intro)) | exact And.intro rfl (And.intro rfl (And.intro rfl (And.intro rfl True.intro))))) | (apply PanAt.call; (case hk => exact rfl); (case ho => exact rfl); (case hg => exact rfl); (case hx => exact rfl); (first | ((case' hc => apply p1); (case hu => first | exact .same _ | exact ft1 rfl | exact ft2 rfl | (apply ft1; simp only [V.cv, V.cv.go, V.cells, cv_mapb, cv_mapq, cv_mapu] <;> rfl))) | ((case' hc => apply p2); (case hu => first | exact .same _ | exact ft1 rfl | exact ft2 rfl | (apply ft1; simp only [V.cv, V.cv.go, V.cells, cv_mapb, cv_mapq, cv_mapu] <;> rfl))) | ((case' hc => apply p3); (case hu => first | exact .same _ | exact ft1 rfl | exact ft2 rfl | (apply ft1; simp only [V.cv, V.cv.go, V.cells, cv_mapb, cv_mapq, cv_mapu] <;> rfl)))); (case hr => first | exact rfl | (simp only [V.cells, refsE, refsM, V.refs, V.refs.go, V.pure, V.pure.go, pure_mapq, pure_mapb, pure_mapu, refs_mapq, refs_mapb, refs_mapu, refs_append, Bool.and_true, Bool.true_and, Bool.and_self] <;> exact rfl) | (simp only [V.cells, refsE, refsM, V.refs, V.refs.go, V.pure, V.pure.go, pure_mapq, pure_mapb, pure_mapu, refs_mapq, refs_mapb, refs_mapu, refs_append, Bool.and_true, Bool.true_and, Bool.and_self, hrf] <;> exact rfl) | (simp only [V.cells, refsE, refsM, V.refs, V.refs.go, V.pure, V.pure.go, pure_mapq, pure_mapb, pure_mapu, refs_mapq, refs_mapb, refs_mapu, refs_append, Bool.and_true, Bool.true_and, Bool.and_self, hrf, hrg] <;> exact rfl) | exact lz); (case ht => first | exact True.intro | exact And.intro rfl True.intro | exact And.intro rfl (And.intro rfl True.intro) | exact And.intro rfl (And.intro rfl (And.intro rfl True.intro)) | exact And.intro rfl (And.intro rfl (And.intro rfl (And.intro rfl True.intro))))) | refine LC.seq ?_ | refine LC.upToM hp1 ?_ | refine LC.upToM hp2 ?_ | (refine LC.drawPanM hq1 mixed (by kernel_rfl) ?_; dsimp only [pickI, nth]) | refine LC.regionD ?_ | refine LC.block ?_ | refine LC.skip ?_ | refine LC.label ?_ | refine LC.exit ?_ | refine LC.scope ?_ | refine LC.condT rfl ?_ | refine LC.condF rfl ?_ | refine LC.draw mixed (by kernel_rfl) ?_ | refine DR.nl (by kernel_rfl) ?_ | refine LC.iteT rfl (by assumption) ?_ | refine LC.iteF rfl (by assumption) ?_ | refine LC.iteD rfl ⟨?_, ?_⟩ | refine LC.iteN rfl ⟨?_, ?_⟩ | refine LC.iteB rfl ⟨?_, ?_⟩ | (apply LNext2.go; (case he => (repeat (first | exact True.intro | refine And.intro rfl ?_))); (case hm => (repeat (first | exact True.intro | refine And.intro rfl ?_))); (case hk => exact rfl); (case hrE => first | exact rfl | (simp only [V.cells, refsE, refsM, V.refs, V.refs.go, V.pure, V.pure.go, pure_mapq, pure_mapb, pure_mapu, refs_mapq, refs_mapb, refs_mapu, refs_append, Bool.and_true, Bool.true_and, Bool.and_self] <;> exact rfl) | (simp only [V.cells, refsE, refsM, V.refs, V.refs.go, V.pure, V.pure.go, pure_mapq, pure_mapb, pure_mapu, refs_mapq, refs_mapb, refs_mapu, refs_append, Bool.and_true, Bool.true_and, Bool.and_self, hrf] <;> exact rfl) | (simp only [V.cells, refsE, refsM, V.refs, V.refs.go, V.pure, V.pure.go, pure_mapq, pure_mapb, pure_mapu, refs_mapq, refs_mapb, refs_mapu, refs_append, Bool.and_true, Bool.true_and, Bool.and_self, hrf, hrg] <;> exact rfl) | exact lz); (case hrM => first | exact rfl | (simp only [V.cells, refsE, refsM, V.refs, V.refs.go, V.pure, V.pure.go, pure_mapq, pure_mapb, pure_mapu, refs_mapq, refs_mapb, refs_mapu, refs_append, Bool.and_true, Bool.true_and, Bool.and_self] <;> exact rfl) | (simp only [V.cells, refsE, refsM, V.refs, V.refs.go, V.pure, V.pure.go, pure_mapq, pure_mapb, pure_mapu, refs_mapq, refs_mapb, refs_mapu, refs_append, Bool.and_true, Bool.true_and, Bool.and_self, hrf] <;> exact rfl) | (simp only [V.cells, refsE, refsM, V.refs, V.refs.go, V.pure, V.pure.go, pure_mapq, pure_mapb, pure_mapu, refs_mapq, refs_mapb, refs_mapu, refs_append, Bool.and_true, Bool.true_and, Bool.and_self, hrf, hrg] <;> exact rfl) | exact lz); (case hok => first | assumption | exact lz | trivial | (refine ⟨?_, ?_⟩ <;> exact lz) | (refine ⟨?_, ?_, ?_⟩ <;> exact lz)); (case hlt => exact lz)) | (apply LNext3.go; (case he => (repeat (first | exact True.intro | refine And.intro rfl ?_))); (case hm => (repeat (first | exact True.intro | refine And.intro rfl ?_))); (case hk => exact rfl); (case hrE => first | exact rfl | (simp only [V.cells, refsE, refsM, V.refs, V.refs.go, V.pure, V.pure.go, pure_mapq, pure_mapb, pure_mapu, refs_mapq, refs_mapb, refs_mapu, refs_append, Bool.and_true, Bool.true_and, Bool.and_self] <;> exact rfl) | (simp only [V.cells, refsE, refsM, V.refs, V.refs.go, V.pure, V.pure.go, pure_mapq, pure_mapb, pure_mapu, refs_mapq, refs_mapb, refs_mapu, refs_append, Bool.and_true, Bool.true_and, Bool.and_self, hrf] <;> exact rfl) | (simp only [V.cells, refsE, refsM, V.refs, V.refs.go, V.pure, V.pure.go, pure_mapq, pure_mapb, pure_mapu, refs_mapq, refs_mapb, refs_mapu, refs_append, Bool.and_true, Bool.true_and, Bool.and_self, hrf, hrg] <;> exact rfl) | exact lz); (case hrM => first | exact rfl | (simp only [V.cells, refsE, refsM, V.refs, V.refs.go, V.pure, V.pure.go, pure_mapq, pure_mapb, pure_mapu, refs_mapq, refs_mapb, refs_mapu, refs_append, Bool.and_true, Bool.true_and, Bool.and_self] <;> exact rfl) | (simp only [V.cells, refsE, refsM, V.refs, V.refs.go, V.pure, V.pure.go, pure_mapq, pure_mapb, pure_mapu, refs_mapq, refs_mapb, refs_mapu, refs_append, Bool.and_true, Bool.true_and, Bool.and_self, hrf] <;> exact rfl) | (simp only [V.cells, refsE, refsM, V.refs, V.refs.go, V.pure, V.pure.go, pure_mapq, pure_mapb, pure_mapu, refs_mapq, refs_mapb, refs_mapu, refs_append, Bool.and_true, Bool.true_and, Bool.and_self, hrf, hrg] <;> exact rfl) | exact lz); (case hok => first | assumption | exact lz | trivial | (refine ⟨?_, ?_⟩ <;> exact lz) | (refine ⟨?_, ?_, ?_⟩ <;> exact lz)); (case hlt => exact lz)) | (apply LNext.go; (case he => (repeat (first | exact True.intro | refine And.intro rfl ?_))); (case hm => (repeat (first | exact True.intro | refine And.intro rfl ?_))); (case hk => exact rfl); (case hrE => first | exact rfl | (simp only [V.cells, refsE, refsM, V.refs, V.refs.go, V.pure, V.pure.go, pure_mapq, pure_mapb, pure_mapu, refs_mapq, refs_mapb, refs_mapu, refs_append, Bool.and_true, Bool.true_and, Bool.and_self] <;> exact rfl) | (simp only [V.cells, refsE, refsM, V.refs, V.refs.go, V.pure, V.pure.go, pure_mapq, pure_mapb, pure_mapu, refs_mapq, refs_mapb, refs_mapu, refs_append, Bool.and_true, Bool.true_and, Bool.and_self, hrf] <;> exact rfl) | (simp only [V.cells, refsE, refsM, V.refs, V.refs.go, V.pure, V.pure.go, pure_mapq, pure_mapb, pure_mapu, refs_mapq, refs_mapb, refs_mapu, refs_append, Bool.and_true, Bool.true_and, Bool.and_self, hrf, hrg] <;> exact rfl) | exact lz); (case hrM => first | exact rfl | (simp only [V.cells, refsE, refsM, V.refs, V.refs.go, V.pure, V.pure.go, pure_mapq, pure_mapb, pure_mapu, refs_mapq, refs_mapb, refs_mapu, refs_append, Bool.and_true, Bool.true_and, Bool.and_self] <;> exact rfl) | (simp only [V.cells, refsE, refsM, V.refs, V.refs.go, V.pure, V.pure.go, pure_mapq, pure_mapb, pure_mapu, refs_mapq, refs_mapb, refs_mapu, refs_append, Bool.and_true, Bool.true_and, Bool.and_self, hrf] <;> exact rfl) | (simp only [V.cells, refsE, refsM, V.refs, V.refs.go, V.pure, V.pure.go, pure_mapq, pure_mapb, pure_mapu, refs_mapq, refs_mapb, refs_mapu, refs_append, Bool.and_true, Bool.true_and, Bool.and_self, hrf, hrg] <;> exact rfl) | exact lz); (case hok => first | assumption | exact lz | trivial | (refine ⟨?_, ?_⟩ <;> exact lz) | (refine ⟨?_, ?_, ?_⟩ <;> exact lz)); (case hlt => exact lz)) | refine LC.ret ?_ | (with_reducible first | apply thP | apply blkP | apply ngP | apply thR | apply thE | apply blkR | apply blkE | apply blkN | apply ngR) | ((with_reducible first | apply LRet.ret_ | apply LRet.nrm); (case h => first | exact resV_1 (by first | (with_reducible refine res1_tmp ?_; exact rfl) | ((with_reducible apply res1_cell); (case h1 => exact rfl); (case h2 => exact rfl); (case h3 => exact rfl); (case h4 => (first | exact part_map rfl rfl lz | exact part_whole rfl lz | (apply ld1 <;> first | exact rfl | exact lz) | (apply ld2 <;> first | exact rfl | exact lz) | (apply part_l; (first | exact part_map rfl rfl lz | exact part_whole rfl lz | exact rfl)) | (apply part_r; (case hl => first | exact (List.length_map _).trans (by assumption) | ((try apply (List.length_map _).trans); (repeat apply List.length_set.trans); assumption) | rfl); (case hk => first | exact off_s | exact off_r (by decide) | exact off_r lz); first | (apply part_l; (first | exact part_map rfl rfl lz | exact part_whole rfl lz | exact rfl)) | (apply part_r; (case hl => first | exact (List.length_map _).trans (by assumption) | ((try apply (List.length_map _).trans); (repeat apply List.length_set.trans); assumption) | rfl); (case hk => first | exact off_s | exact off_r (by decide) | exact off_r lz); (first | exact part_map rfl rfl lz | exact part_whole rfl lz | exact rfl)) | (first | exact part_map rfl rfl lz | exact part_whole rfl lz | exact rfl)) | exact rfl))) | exact rfl) | exact resV_2 (by first | (with_reducible refine res1_tmp ?_; exact rfl) | ((with_reducible apply res1_cell); (case h1 => exact rfl); (case h2 => exact rfl); (case h3 => exact rfl); (case h4 => (first | exact part_map rfl rfl lz | exact part_whole rfl lz | (apply ld1 <;> first | exact rfl | exact lz) | (apply ld2 <;> first | exact rfl | exact lz) | (apply part_l; (first | exact part_map rfl rfl lz | exact part_whole rfl lz | exact rfl)) | (apply part_r; (case hl => first | exact (List.length_map _).trans (by assumption) | ((try apply (List.length_map _).trans); (repeat apply List.length_set.trans); assumption) | rfl); (case hk => first | exact off_s | exact off_r (by decide) | exact off_r lz); first | (apply part_l; (first | exact part_map rfl rfl lz | exact part_whole rfl lz | exact rfl)) | (apply part_r; (case hl => first | exact (List.length_map _).trans (by assumption) | ((try apply (List.length_map _).trans); (repeat apply List.length_set.trans); assumption) | rfl); (case hk => first | exact off_s | exact off_r (by decide) | exact off_r lz); (first | exact part_map rfl rfl lz | exact part_whole rfl lz | exact rfl)) | (first | exact part_map rfl rfl lz | exact part_whole rfl lz | exact rfl)) | exact rfl))) | exact rfl) (by first | (with_reducible refine res1_tmp ?_; exact rfl) | ((with_reducible apply res1_cell); (case h1 => exact rfl); (case h2 => exact rfl); (case h3 => exact rfl); (case h4 => (first | exact part_map rfl rfl lz | exact part_whole rfl lz | (apply ld1 <;> first | exact rfl | exact lz) | (apply ld2 <;> first | exact rfl | exact lz) | (apply part_l; (first | exact part_map rfl rfl lz | exact part_whole rfl lz | exact rfl)) | (apply part_r; (case hl => first | exact (List.length_map _).trans (by assumption) | ((try apply (List.length_map _).trans); (repeat apply List.length_set.trans); assumption) | rfl); (case hk => first | exact off_s | exact off_r (by decide) | exact off_r lz); first | (apply part_l; (first | exact part_map rfl rfl lz | exact part_whole rfl lz | exact rfl)) | (apply part_r; (case hl => first | exact (List.length_map _).trans (by assumption) | ((try apply (List.length_map _).trans); (repeat apply List.length_set.trans); assumption) | rfl); (case hk => first | exact off_s | exact off_r (by decide) | exact off_r lz); (first | exact part_map rfl rfl lz | exact part_whole rfl lz | exact rfl)) | (first | exact part_map rfl rfl lz | exact part_whole rfl lz | exact rfl)) | exact rfl))) | exact rfl) | exact resV_3 (by first | (with_reducible refine res1_tmp ?_; exact rfl) | ((with_reducible apply res1_cell); (case h1 => exact rfl); (case h2 => exact rfl); (case h3 => exact rfl); (case h4 => (first | exact part_map rfl rfl lz | exact part_whole rfl lz | (apply ld1 <;> first | exact rfl | exact lz) | (apply ld2 <;> first | exact rfl | exact lz) | (apply part_l; (first | exact part_map rfl rfl lz | exact part_whole rfl lz | exact rfl)) | (apply part_r; (case hl => first | exact (List.length_map _).trans (by assumption) | ((try apply (List.length_map _).trans); (repeat apply List.length_set.trans); assumption) | rfl); (case hk => first | exact off_s | exact off_r (by decide) | exact off_r lz); first | (apply part_l; (first | exact part_map rfl rfl lz | exact part_whole rfl lz | exact rfl)) | (apply part_r; (case hl => first | exact (List.length_map _).trans (by assumption) | ((try apply (List.length_map _).trans); (repeat apply List.length_set.trans); assumption) | rfl); (case hk => first | exact off_s | exact off_r (by decide) | exact off_r lz); (first | exact part_map rfl rfl lz | exact part_whole rfl lz | exact rfl)) | (first | exact part_map rfl rfl lz | exact part_whole rfl lz | exact rfl)) | exact rfl))) | exact rfl) (by first | (with_reducible refine res1_tmp ?_; exact rfl) | ((with_reducible apply res1_cell); (case h1 => exact rfl); (case h2 => exact rfl); (case h3 => exact rfl); (case h4 => (first | exact part_map rfl rfl lz | exact part_whole rfl lz | (apply ld1 <;> first | exact rfl | exact lz) | (apply ld2 <;> first | exact rfl | exact lz) | (apply part_l; (first | exact part_map rfl rfl lz | exact part_whole rfl lz | exact rfl)) | (apply part_r; (case hl => first | exact (List.length_map _).trans (by assumption) | ((try apply (List.length_map _).trans); (repeat apply List.length_set.trans); assumption) | rfl); (case hk => first | exact off_s | exact off_r (by decide) | exact off_r lz); first | (apply part_l; (first | exact part_map rfl rfl lz | exact part_whole rfl lz | exact rfl)) | (apply part_r; (case hl => first | exact (List.length_map _).trans (by assumption) | ((try apply (List.length_map _).trans); (repeat apply List.length_set.trans); assumption) | rfl); (case hk => first | exact off_s | exact off_r (by decide) | exact off_r lz); (first | exact part_map rfl rfl lz | exact part_whole rfl lz | exact rfl)) | (first | exact part_map rfl rfl lz | exact part_whole rfl lz | exact rfl)) | exact rfl))) | exact rfl) (by first | (with_reducible refine res1_tmp ?_; exact rfl) | ((with_reducible apply res1_cell); (case h1 => exact rfl); (case h2 => exact rfl); (case h3 => exact rfl); (case h4 => (first | exact part_map rfl rfl lz | exact part_whole rfl lz | (apply ld1 <;> first | exact rfl | exact lz) | (apply ld2 <;> first | exact rfl | exact lz) | (apply part_l; (first | exact part_map rfl rfl lz | exact part_whole rfl lz | exact rfl)) | (apply part_r; (case hl => first | exact (List.length_map _).trans (by assumption) | ((try apply (List.length_map _).trans); (repeat apply List.length_set.trans); assumption) | rfl); (case hk => first | exact off_s | exact off_r (by decide) | exact off_r lz); first | (apply part_l; (first | exact part_map rfl rfl lz | exact part_whole rfl lz | exact rfl)) | (apply part_r; (case hl => first | exact (List.length_map _).trans (by assumption) | ((try apply (List.length_map _).trans); (repeat apply List.length_set.trans); assumption) | rfl); (case hk => first | exact off_s | exact off_r (by decide) | exact off_r lz); (first | exact part_map rfl rfl lz | exact part_whole rfl lz | exact rfl)) | (first | exact part_map rfl rfl lz | exact part_whole rfl lz | exact rfl)) | exact rfl))) | exact rfl) | exact rfl); first | (apply LFU.eqV; (case hr => first | exact rfl | (simp only [V.cells, refsE, refsM, V.refs, V.refs.go, V.pure, V.pure.go, pure_mapq, pure_mapb, pure_mapu, refs_mapq, refs_mapb, refs_mapu, refs_append, Bool.and_true, Bool.true_and, Bool.and_self] <;> exact rfl) | (simp only [V.cells, refsE, refsM, V.refs, V.refs.go, V.pure, V.pure.go, pure_mapq, pure_mapb, pure_mapu, refs_mapq, refs_mapb, refs_mapu, refs_append, Bool.and_true, Bool.true_and, Bool.and_self, hrf] <;> exact rfl) | (simp only [V.cells, refsE, refsM, V.refs, V.refs.go, V.pure, V.pure.go, pure_mapq, pure_mapb, pure_mapu, refs_mapq, refs_mapb, refs_mapu, refs_append, Bool.and_true, Bool.true_and, Bool.and_self, hrf, hrg] <;> exact rfl) | exact lz); (case hv => first | with_reducible exact rfl | assumption | exact rfl | exact hv1 | exact hv2 | exact bz)) | (apply LFU.cvV false; (case hr => first | exact rfl | (simp only [V.cells, refsE, refsM, V.refs, V.refs.go, V.pure, V.pure.go, pure_mapq, pure_mapb, pure_mapu, refs_mapq, refs_mapb, refs_mapu, refs_append, Bool.and_true, Bool.true_and, Bool.and_self] <;> exact rfl) | (simp only [V.cells, refsE, refsM, V.refs, V.refs.go, V.pure, V.pure.go, pure_mapq, pure_mapb, pure_mapu, refs_mapq, refs_mapb, refs_mapu, refs_append, Bool.and_true, Bool.true_and, Bool.and_self, hrf] <;> exact rfl) | (simp only [V.cells, refsE, refsM, V.refs, V.refs.go, V.pure, V.pure.go, pure_mapq, pure_mapb, pure_mapu, refs_mapq, refs_mapb, refs_mapu, refs_append, Bool.and_true, Bool.true_and, Bool.and_self, hrf, hrg] <;> exact rfl) | exact lz); (case hv => first | with_reducible exact rfl | assumption | exact rfl | exact hv1 | exact hv2 | exact bz)) | (apply LFU.cvV true; (case hr => first | exact rfl | (simp only [V.cells, refsE, refsM, V.refs, V.refs.go, V.pure, V.pure.go, pure_mapq, pure_mapb, pure_mapu, refs_mapq, refs_mapb, refs_mapu, refs_append, Bool.and_true, Bool.true_and, Bool.and_self] <;> exact rfl) | (simp only [V.cells, refsE, refsM, V.refs, V.refs.go, V.pure, V.pure.go, pure_mapq, pure_mapb, pure_mapu, refs_mapq, refs_mapb, refs_mapu, refs_append, Bool.and_true, Bool.true_and, Bool.and_self, hrf] <;> exact rfl) | (simp only [V.cells, refsE, refsM, V.refs, V.refs.go, V.pure, V.pure.go, pure_mapq, pure_mapb, pure_mapu, refs_mapq, refs_mapb, refs_mapu, refs_append, Bool.and_true, Bool.true_and, Bool.and_self, hrf, hrg] <;> exact rfl) | exact lz); (case hv => first | with_reducible exact rfl | assumption | exact rfl | exact hv1 | exact hv2 | exact bz)) | (apply LFU.memV; (case hm => (repeat (first | exact True.intro | refine And.intro rfl ?_))); (case hr => first | exact rfl | (simp only [V.cells, refsE, refsM, V.refs, V.refs.go, V.pure, V.pure.go, pure_mapq, pure_mapb, pure_mapu, refs_mapq, refs_mapb, refs_mapu, refs_append, Bool.and_true, Bool.true_and, Bool.and_self] <;> exact rfl) | (simp only [V.cells, refsE, refsM, V.refs, V.refs.go, V.pure, V.pure.go, pure_mapq, pure_mapb, pure_mapu, refs_mapq, refs_mapb, refs_mapu, refs_append, Bool.and_true, Bool.true_and, Bool.and_self, hrf] <;> exact rfl) | (simp only [V.cells, refsE, refsM, V.refs, V.refs.go, V.pure, V.pure.go, pure_mapq, pure_mapb, pure_mapu, refs_mapq, refs_mapb, refs_mapu, refs_append, Bool.and_true, Bool.true_and, Bool.and_self, hrf, hrg] <;> exact rfl) | exact lz); (case hv => first | with_reducible exact rfl | assumption | exact rfl | exact hv1 | exact hv2 | exact bz)) | (apply LFU.memC (fun _ => false) false; (case hm => (repeat (first | exact True.intro | refine And.intro rfl ?_))); (case hr => first | exact rfl | (simp only [V.cells, refsE, refsM, V.refs, V.refs.go, V.pure, V.pure.go, pure_mapq, pure_mapb, pure_mapu, refs_mapq, refs_mapb, refs_mapu, refs_append, Bool.and_true, Bool.true_and, Bool.and_self] <;> exact rfl) | (simp only [V.cells, refsE, refsM, V.refs, V.refs.go, V.pure, V.pure.go, pure_mapq, pure_mapb, pure_mapu, refs_mapq, refs_mapb, refs_mapu, refs_append, Bool.and_true, Bool.true_and, Bool.and_self, hrf] <;> exact rfl) | (simp only [V.cells, refsE, refsM, V.refs, V.refs.go, V.pure, V.pure.go, pure_mapq, pure_mapb, pure_mapu, refs_mapq, refs_mapb, refs_mapu, refs_append, Bool.and_true, Bool.true_and, Bool.and_self, hrf, hrg] <;> exact rfl) | exact lz); (case hv => first | with_reducible exact rfl | assumption | exact rfl | exact hv1 | exact hv2 | exact bz)) | (apply LFU.memC (fun _ => false) true; (case hm => (repeat (first | exact True.intro | refine And.intro rfl ?_))); (case hr => first | exact rfl | (simp only [V.cells, refsE, refsM, V.refs, V.refs.go, V.pure, V.pure.go, pure_mapq, pure_mapb, pure_mapu, refs_mapq, refs_mapb, refs_mapu, refs_append, Bool.and_true, Bool.true_and, Bool.and_self] <;> exact rfl) | (simp only [V.cells, refsE, refsM, V.refs, V.refs.go, V.pure, V.pure.go, pure_mapq, pure_mapb, pure_mapu, refs_mapq, refs_mapb, refs_mapu, refs_append, Bool.and_true, Bool.true_and, Bool.and_self, hrf] <;> exact rfl) | (simp only [V.cells, refsE, refsM, V.refs, V.refs.go, V.pure, V.pure.go, pure_mapq, pure_mapb, pure_mapu, refs_mapq, refs_mapb, refs_mapu, refs_append, Bool.and_true, Bool.true_and, Bool.and_self, hrf, hrg] <;> exact rfl) | exact lz); (case hv => first | with_reducible exact rfl | assumption | exact rfl | exact hv1 | exact hv2 | exact bz))) | ((with_reducible apply LRet.panE); (case hm => (repeat (first | exact True.intro | refine And.intro rfl ?_))); (case hr => first | exact rfl | (simp only [V.cells, refsE, refsM, V.refs, V.refs.go, V.pure, V.pure.go, pure_mapq, pure_mapb, pure_mapu, refs_mapq, refs_mapb, refs_mapu, refs_append, Bool.and_true, Bool.true_and, Bool.and_self] <;> exact rfl) | (simp only [V.cells, refsE, refsM, V.refs, V.refs.go, V.pure, V.pure.go, pure_mapq, pure_mapb, pure_mapu, refs_mapq, refs_mapb, refs_mapu, refs_append, Bool.and_true, Bool.true_and, Bool.and_self, hrf] <;> exact rfl) | (simp only [V.cells, refsE, refsM, V.refs, V.refs.go, V.pure, V.pure.go, pure_mapq, pure_mapb, pure_mapu, refs_mapq, refs_mapb, refs_mapu, refs_append, Bool.and_true, Bool.true_and, Bool.and_self, hrf, hrg] <;> exact rfl) | exact lz); (case hv => exact rfl)) | (apply DR.skip; (case hg => first | exact rfl | exact gd_n rfl rfl rfl (by assumption)); (case hds => exact rfl); (case hd => exact rfl)) | (apply DR.skipz; (case hg => first | exact rfl | exact gd_n rfl rfl rfl (by assumption)); (case hds => exact rfl)) | (apply DR.gs; (case h1 => exact rfl); (case h2 => exact rfl); (case h3 => exact rfl); (case _hn => (fail_if_success exact fr1 rfl); (fail_if_success exact fr2 rfl); (fail_if_success exact fr1 (by assumption)); (fail_if_success exact fr2 (by assumption)); exact trivial)) | exact lz | fail)); all_goals first | exact a1.out | exact a2.out | exact a3.out) : G := h ⟨h1⟩ ⟨h2⟩ ⟨h3⟩
end Lf
end Go.Proofs.Ytclkpjefklahfaa

/- Numbers by their digits, the greatest first: lists without noughts ahead are one for each number, and are ordered as the numbers are. Plain Lean. -/
namespace Go.Proofs.Ytclkpjefklahfaa
namespace Ps
def pos (B : Nat) : List Nat → Nat
  | [] => 0
  | a :: l => a * B ^ l.length + pos B l
def NL (l : List Nat) : Prop := l.head? ≠ some 0
def lexN : List Nat → List Nat → Bool
  | a :: l, b :: m => decide (a < b) || (decide (a = b) && lexN l m)
  | [], _ :: _ => true
  | _, [] => false
theorem pos_append (B : Nat) (l m : List Nat) : pos B (l ++ m) = pos B l * B ^ m.length + pos B m := by
  induction l with
  | nil => simp [pos]
  | cons a l ih =>
    simp only [List.cons_append, pos, ih, List.length_append, Nat.pow_add, Nat.add_mul, Nat.mul_assoc, Nat.add_assoc]
theorem pos_lt {B : Nat} {l : List Nat} (h : ∀ a ∈ l, a < B) : pos B l < B ^ l.length := by
  induction l with
  | nil => simp [pos]
  | cons a l ih =>
    have h1 := ih fun x hx => h x (by simp [hx])
    have h2 : (a + 1) * B ^ l.length ≤ B * B ^ l.length := Nat.mul_le_mul_right _ (h a (by simp))
    simp only [pos, List.length_cons, Nat.pow_succ]
    rw [Nat.mul_comm (B ^ l.length) B]
    rw [Nat.add_mul, Nat.one_mul] at h2
    omega
theorem pos_ge {B : Nat} {a : Nat} {l : List Nat} (h : a ≠ 0) : B ^ l.length ≤ pos B (a :: l) := by
  simp only [pos]
  have : 1 * B ^ l.length ≤ a * B ^ l.length := Nat.mul_le_mul_right _ (by omega)
  omega
theorem pos_lex {B : Nat} : ∀ {l m : List Nat}, l.length = m.length → (∀ a ∈ l, a < B) → (∀ a ∈ m, a < B) → (pos B l < pos B m ↔ lexN l m = true)
  | [], [], _, _, _ => by simp [pos, lexN]
  | a :: l, b :: m, hl, h1, h2 => by
    have hl' : l.length = m.length := by simpa using hl
    have ih := pos_lex hl' (fun x hx => h1 x (by simp [hx])) (fun x hx => h2 x (by simp [hx]))
    have k1 := pos_lt (B := B) (l := l) fun x hx => h1 x (by simp [hx])
    have k2 := pos_lt (B := B) (l := m) fun x hx => h2 x (by simp [hx])
    simp only [pos, lexN, Bool.or_eq_true, Bool.and_eq_true, decide_eq_true_eq, ← ih]
    rw [← hl'] at k2 ⊢
    generalize B ^ l.length = p at *
    rcases Nat.lt_trichotomy a b with h | h | h
    · have := Nat.mul_le_mul_right p (Nat.succ_le_of_lt h)
      rw [Nat.succ_mul] at this
      exact ⟨fun _ => .inl h, fun _ => by omega⟩
    · subst h
      exact ⟨fun k => .inr ⟨rfl, by omega⟩, fun k => by rcases k with k | k <;> omega⟩
    · have := Nat.mul_le_mul_right p (Nat.succ_le_of_lt h)
      rw [Nat.succ_mul] at this
      exact ⟨fun k => by omega, fun k => by rcases k with k | k <;> omega⟩
  | [], _ :: _, hl, _, _ => by simp at hl
  | _ :: _, [], hl, _, _ => by simp at hl
theorem pos_len {B : Nat} {l m : List Nat} (hB : 0 < B) (hl : l.length < m.length) (h1 : ∀ a ∈ l, a < B) (hm : NL m) : pos B l < pos B m := by
  cases m with
  | nil => simp at hl
  | cons b m =>
    have h2 : b ≠ 0 := fun e => hm (by simp [e])
    have := pos_ge (B := B) (l := m) h2
    have k := pos_lt h1
    have : B ^ l.length ≤ B ^ m.length := Nat.pow_le_pow_right hB (by simp at hl; omega)
    omega
theorem pos_order {B : Nat} {l m : List Nat} (hB : 0 < B) (h1 : ∀ a ∈ l, a < B) (h2 : ∀ a ∈ m, a < B) (k1 : NL l) (k2 : NL m) : pos B l < pos B m ↔ l.length < m.length ∨ (l.length = m.length ∧ lexN l m = true) := by
  rcases Nat.lt_trichotomy l.length m.length with h | h | h
  · exact ⟨fun _ => .inl h, fun _ => pos_len hB h h1 k2⟩
  · rw [pos_lex h h1 h2]
    exact ⟨fun k => .inr ⟨h, k⟩, fun k => by rcases k with k | k <;> first | omega | exact k.2⟩
  · have := pos_len hB h h2 k1
    exact ⟨fun k => by omega, fun k => by omega⟩
theorem lexN_irr (l : List Nat) : lexN l l = false := by induction l <;> simp [lexN, *]
theorem lexN_eq : ∀ {l m : List Nat}, l.length = m.length → lexN l m = false → lexN m l = false → l = m
  | [], [], _, _, _ => rfl
  | a :: l, b :: m, hl, h1, h2 => by
    simp only [lexN, Bool.or_eq_false_iff, Bool.and_eq_false_iff, decide_eq_false_iff_not] at h1 h2
    obtain rfl : a = b := by omega
    rw [lexN_eq (l := l) (m := m) (by simpa using hl) (by rcases h1.2 with h | h; exact absurd rfl h; exact h) (by rcases h2.2 with h | h; exact absurd rfl h; exact h)]
  | [], _ :: _, hl, _, _ => by simp at hl
  | _ :: _, [], hl, _, _ => by simp at hl
theorem pos_inj {B : Nat} {l m : List Nat} (hB : 0 < B) (h1 : ∀ a ∈ l, a < B) (h2 : ∀ a ∈ m, a < B) (k1 : NL l) (k2 : NL m) (h : pos B l = pos B m) : l = m := by
  have e1 := pos_order hB h1 h2 k1 k2
  have e2 := pos_order hB h2 h1 k2 k1
  have n1 : ¬ (l.length < m.length ∨ (l.length = m.length ∧ lexN l m = true)) := fun h' => by have := e1.2 h'; omega
  have n2 : ¬ (m.length < l.length ∨ (m.length = l.length ∧ lexN m l = true)) := fun h' => by have := e2.2 h'; omega
  have hl : l.length = m.length := by omega
  refine lexN_eq hl ?_ ?_
  · rw [← Bool.not_eq_true]; exact fun h' => n1 (.inr ⟨hl, h'⟩)
  · rw [← Bool.not_eq_true]; exact fun h' => n2 (.inr ⟨hl.symm, h'⟩)
/-- Without noughts ahead. -/
def strip (l : List UInt8) : List UInt8 := l.dropWhile (· == 0)
def nat8 (l : List UInt8) : List Nat := l.map UInt8.toNat
theorem nat8_lt (l : List UInt8) : ∀ a ∈ nat8 l, a < 256 := fun a ha => by
  obtain ⟨x, _, rfl⟩ := List.mem_map.1 ha
  exact x.toNat_lt
theorem nat8_inj {l m : List UInt8} (h : nat8 l = nat8 m) : l = m := by
  induction l generalizing m with
  | nil => cases m with
    | nil => rfl
    | cons _ _ => simp [nat8] at h
  | cons a l ih => cases m with
    | nil => simp [nat8] at h
    | cons b m =>
      simp only [nat8, List.map_cons, List.cons.injEq] at h
      rw [UInt8.toNat_inj.1 h.1, ih h.2]
theorem strip_nl (l : List UInt8) : NL (nat8 (strip l)) := by
  unfold strip
  induction l with
  | nil => simp [NL, nat8]
  | cons a l ih =>
    rw [List.dropWhile_cons]
    split
    · exact ih
    · rename_i h
      intro e
      simp only [nat8, List.map_cons, List.head?_cons, Option.some.injEq] at e
      apply h
      have : a = 0 := UInt8.toNat_inj.1 (by rw [e]; rfl)
      simp [this]
theorem strip_pos (B : Nat) (l : List UInt8) : pos B (nat8 (strip l)) = pos B (nat8 l) := by
  unfold strip
  induction l with
  | nil => rfl
  | cons a l ih =>
    rw [List.dropWhile_cons]
    split
    · rename_i h
      have : a = 0 := by simpa using h
      subst this
      rw [ih]
      simp [nat8, pos]
    · rfl
theorem strip_len (l : List UInt8) : (strip l).length ≤ l.length := (List.dropWhile_sublist _).length_le
theorem nl_iff (l : List UInt8) : NL (nat8 l) ↔ l.head? ≠ some 0 := by
  cases l with
  | nil => simp [NL, nat8]
  | cons a l =>
    simp only [NL, nat8, List.map_cons, List.head?_cons, ne_eq, Option.some.injEq]
    constructor
    · intro h e; apply h; rw [e]; rfl
    · intro h e; apply h; exact UInt8.toNat_inj.1 (by rw [e]; rfl)
theorem strip_id {l : List UInt8} (h : l.head? ≠ some 0) : strip l = l := by
  cases l with
  | nil => rfl
  | cons a l =>
    unfold strip
    rw [List.dropWhile_cons, if_neg]
    intro e
    apply h
    have : a = 0 := by simpa using e
    rw [this]; rfl
/-- The number of a list of bytes. -/
def beN (l : List UInt8) : Nat := pos 256 (nat8 l)
theorem beN_lt (l : List UInt8) : beN l < 256 ^ l.length := by
  have := pos_lt (nat8_lt l)
  rwa [show (nat8 l).length = l.length by simp [nat8]] at this
theorem beN_strip (l : List UInt8) : beN (strip l) = beN l := strip_pos 256 l
theorem beN_inj {l m : List UInt8} (k1 : l.head? ≠ some 0) (k2 : m.head? ≠ some 0) (h : beN l = beN m) : l = m :=
  nat8_inj (pos_inj (by decide) (nat8_lt l) (nat8_lt m) ((nl_iff l).2 k1) ((nl_iff m).2 k2) h)
theorem strip_head (l : List UInt8) : (strip l).head? ≠ some 0 := (nl_iff _).1 (strip_nl l)
theorem strip_of {l m : List UInt8} (k : m.head? ≠ some 0) (h : beN l = beN m) : strip l = m := beN_inj (strip_head l) k ((beN_strip l).trans h)
end Ps
end Go.Proofs.Ytclkpjefklahfaa

/- A region that draws its order, as in XRegion; what makes memory may turn the blocks that are not kept. -/
namespace Go.Proofs.Ytclkpjefklahfaa
open Go.RowKit
namespace Rf
open Rg (noCall noCall_spec np wp_monoQ wpOp_monoQ Closed Closed.step waits waitsB waits_listed nth pick freeW chkS chkT chk planSize nth_of)
/-- A later world: every kept block that was there is as it was. -/
structure Ext (F : Nat → Prop) (w w' : World) : Prop where
  size : w.heap.size ≤ w'.heap.size
  block : ∀ k, k < w.heap.size → F k → w'.heap[k]? = w.heap[k]?
theorem Ext.refl {F : Nat → Prop} (w : World) : Ext F w w := ⟨Nat.le_refl _, fun _ _ _ => rfl⟩
theorem Ext.trans {F : Nat → Prop} {a b c : World} (h : Ext F a b) (k : Ext F b c) : Ext F a c := ⟨Nat.le_trans h.size k.size, fun i hi hF => (k.block i (Nat.lt_of_lt_of_le hi h.size) hF).trans (h.block i hi hF)⟩
theorem Ext.of {F : Nat → Prop} {w w' : World} (h : Rg.Ext w w') : Ext F w w' := ⟨h.size, fun k hk _ => h.block k hk⟩
theorem Ext.setCell {F : Nat → Prop} (w : World) (p : Addr) (u : Value) (h : ¬ F p.block) : Ext F w (w.setCell p u) :=
  ⟨by simp, fun k _ hF => Below.heap_setCell w p u k (fun e => h (e ▸ hF))⟩
theorem Ext.setRow {F : Nat → Prop} (w : World) (g : Nat) (cs : Array Value) (h : ¬ F g) : Ext F w (w.setRow g cs) :=
  ⟨by simp, fun k _ hF => setRow_other w g k cs (fun e => h (e ▸ hF))⟩
/-- The class of the later worlds, in the spelling that the quiet walk reads. -/
structure Lt (F : Nat → Prop) (w : World) where
  v : World
  ext : Ext F w v
instance (F : Nat → Prop) (w : World) : Nonempty (Lt F w) := ⟨⟨w, Ext.refl w⟩⟩
def Cls (F : Nat → Prop) (w : World) (w' : World) : Prop := ∃ x : Lt F w, w' = x.v
theorem Cls.mk {F : Nat → Prop} {w w' : World} (h : Ext F w w') : Cls F w w' := ⟨⟨w', h⟩, rfl⟩
@[go_sem] theorem cls_iff (F : Nat → Prop) (w w' : World) : Cls F w w' ↔ ∃ x : Lt F w, w' = x.v := Iff.rfl
/-- A cell of a kept block is there in every later world. -/
theorem Ext.cell {F : Nat → Prop} {w w' : World} (h : Ext F w w') {a : Addr} {v : Value} (hc : w.cell? a = some v) (hF : F a.block) : w'.cell? a = some v := by
  rw [World.cell?_of_block (w := w) (h.block a.block (World.block_lt_of_cell? w a hc) hF)]; exact hc
theorem later {F : Nat → Prop} {w : World} {a : Addr} {v : Value} (hc : w.cell? a = some v) (hF : F a.block) : ∀ x : Lt F w, x.v.cell? a = some v := fun x => x.ext.cell hc hF
theorem laterB {F : Nat → Prop} {w : World} {g : Nat} {o : Obj} (hc : w.heap[g]? = some o) (hF : F g) : ∀ x : Lt F w, x.v.heap[g]? = some o := fun x => by
  rw [x.ext.block g (Array.getElem?_eq_some_iff.1 hc).1 hF]; exact hc

section
variable {F : Nat → Prop} {P : Program} {ops : Array Oper} {Q : Exit → Act → World → Prop} {md : Region.Mode}

/-- In every later world operation 'o' leaves 'v', and the world as it is. -/
def Yld (F : Nat → Prop) (P : Program) (ops : Array Oper) (w : World) (o : Oper) (v : Value) (a : Act) : Prop :=
  (Region.wanted o (yielded ops a.tmps) = true ∧ ∀ w', Ext F w w' → (execOp a.eval o).run P w' = .ok (.value v) w' ∨ ((execOp a.eval o).run P w' = .ok .skip w' ∧ v = undef)) ∨
  (Region.wanted o (yielded ops a.tmps) = false ∧ v = undef)

theorem Yld.later {w w1 : World} {o : Oper} {v : Value} {a : Act} (h : Yld F P ops w o v a) (he : Ext F w w1) : Yld F P ops w1 o v a := by
  rcases h with ⟨hw, h⟩ | h
  · exact .inl ⟨hw, fun w' hw' => h w' (he.trans hw')⟩
  · exact .inr h

theorem Yld.of_same {w : World} {o : Oper} {v : Value} {a a' : Act} (hy : Yld F P ops w o v a) (he : execOp a'.eval o = execOp a.eval o)
    (hw : Region.wanted o (yielded ops a'.tmps) = Region.wanted o (yielded ops a.tmps)) : Yld F P ops w o v a' := by
  unfold Yld at *
  rw [he, hw]
  exact hy

theorem Yld.wpOp {w : World} {i : Nat} {o : Oper} {v : Value} {a : Act} (hi : ops[i]? = some o) (hy : Yld F P ops w o v a) {K : Act → World → Prop} (h : K (a.put o.dst v) w) : wpOp P ops Q i K a w := by
  unfold Go.wpOp
  simp only [hi]
  rcases hy with ⟨hw, hv⟩ | ⟨hw, rfl⟩
  · rw [if_pos hw]
    refine .inl ?_
    unfold Oper.wp
    rcases hv w (Ext.refl w) with hx | ⟨hx, rfl⟩
    · rw [hx]; exact h
    · rw [hx]; exact h
  · simp only [hw, Bool.false_eq_true, if_false]; exact h

theorem yld_of_quiet {w : World} {o : Oper} {a : Act} {K : Act → Prop} (hn : noCall o.op = true)
    (h : if Region.wanted o (yielded ops a.tmps) then o.quiet P a (Cls F w) K else K (a.put o.dst undef)) : ∃ v, Yld F P ops w o v a ∧ K (a.put o.dst v) := by
  by_cases hw : Region.wanted o (yielded ops a.tmps) = true
  · simp only [hw, if_true] at h
    obtain ⟨v, h1, h2⟩ := h
    refine ⟨v, .inl ⟨hw, fun w' hw' => ?_⟩, h2⟩
    have h3 := h1 w' (Cls.mk hw')
    unfold Oper.quietAt at h3
    have hne := fun f args w'' => noCall_spec (P := P) hn a.eval w' f args w''
    generalize (execOp a.eval o).run P w' = r at *
    cases r with
    | halt x w'' => simp only [Oper.quietUpon] at h3
    | ok n w'' =>
      cases n <;> simp only [Oper.quietUpon] at h3
      case value u => obtain ⟨rfl, rfl⟩ := h3; exact .inl rfl
      case skip => obtain ⟨rfl, rfl⟩ := h3; exact .inr ⟨rfl, rfl⟩
      case enter f args => exact absurd rfl (hne f args w'')
  · simp only [hw] at h
    exact ⟨undef, .inr ⟨by simpa using hw, rfl⟩, h⟩

/-- Whatever order is picked; what is not of the tail leaves a later world than 'wb'. -/
def anyE (F : Nat → Prop) (P : Program) (md : Region.Mode) (ops : Array Oper) (Q : Exit → Act → World → Prop) (tl : List Nat) (wb : World) : Nat → Array Bool → Act → World → Prop
  | 0, listed, a, w => Region.ready md ops listed = [] ∧ Q .normal a w
  | fuel + 1, listed, a, w =>
    (Region.ready md ops listed = [] → Q .normal a w) ∧
    ∀ i ∈ Region.ready md ops listed, wpOp P ops (if tl.contains i then Q else np Q) i (fun a' w' => (tl.contains i = false → Ext F wb w') ∧ anyE F P md ops Q tl wb fuel (listed.setIfInBounds i true) a' w') a w

theorem anyE_any {tl : List Nat} {wb : World} : ∀ (fuel : Nat) (listed : Array Bool) (a : Act) (w : World), anyE F P md ops Q tl wb fuel listed a w → wpAny P md ops Q fuel listed a w
  | 0, _, _, _, h => h
  | fuel + 1, _, _, _, h => ⟨h.1, fun i hi => wpOp_monoQ (fun c a w hq => by split at hq; exact hq; exact hq.2) (fun a w hq => by split at hq; exact hq; exact hq.2) (wpOp_mono (fun a' w' h' => anyE_any fuel _ a' w' h'.2) (h.2 i hi))⟩

theorem anyE_base {tl : List Nat} {wb wb' : World} (he : Ext F wb wb') : ∀ (fuel : Nat) (listed : Array Bool) (a : Act) (w : World), anyE F P md ops Q tl wb' fuel listed a w → anyE F P md ops Q tl wb fuel listed a w
  | 0, _, _, _, h => h
  | fuel + 1, _, _, _, h => ⟨h.1, fun i hi => wpOp_mono (fun a' w' h' => ⟨fun ht => he.trans (h'.1 ht), anyE_base he fuel _ a' w' h'.2⟩) (h.2 i hi)⟩

/-- Taken first: a reading operation. -/
theorem anyE_first {tl : List Nat} {wb : World} {i : Nat} {oi : Oper} {v : Value} {W : Array Nat} (hW : waitsB md ops W = true) (hi : ops[i]? = some oi)
    (hsel : ∀ (j : Nat) (o : Oper) cs b, ops[j]? = some o → o.op ≠ .select cs b) :
    ∀ (fuel : Nat) (listed : Array Bool) (a : Act) (w : World), Closed md ops listed → Ext F wb w →
      (∀ j oj, ops[j]? = some oj → j ≠ i → listed.getD j true = false → waits W j i = true ∨ (oi.apart ops oj = true ∧ tl.contains j = false)) →
      i ∈ Region.ready md ops listed → Yld F P ops wb oi v a →
      anyE F P md ops Q tl wb fuel (listed.setIfInBounds i true) (a.put oi.dst v) w → anyE F P md ops Q tl wb (fuel + 1) listed a w := by
  intro fuel
  induction fuel with
  | zero =>
    intro listed a w hc hwb hfree hr hy H
    refine ⟨fun h => (by rw [h] at hr; cases hr), fun j hj => ?_⟩
    by_cases hji : j = i
    · subst hji; exact (hy.later hwb).wpOp hi ⟨fun _ => hwb, H⟩
    · have := ready_mono hj hji
      rw [H.1] at this
      cases this
  | succ fuel ih =>
    intro listed a w hc hwb hfree hr hy H
    refine ⟨fun h => (by rw [h] at hr; cases hr), fun j hj => ?_⟩
    by_cases hji : j = i
    · subst hji; exact (hy.later hwb).wpOp hi ⟨fun _ => hwb, H⟩
    · have h1 := H.2 j (ready_mono hj hji)
      obtain ⟨hjun, oj, hoj, hall⟩ := mem_ready.1 hj
      have hilt : i < ops.size := (Array.getElem?_eq_some_iff.1 hi).1
      have hiun : listed.getD i false = false := by
        have h0 := (mem_ready.1 hr).1
        rcases Nat.lt_or_ge i listed.size with h' | h'
        · simpa [h'] using h0
        · simp [Array.getElem?_eq_none h']
      have hap : oi.apart ops oj = true ∧ tl.contains j = false := by
        rcases hfree j oj hoj hji hjun with hw | h
        · have := waits_listed hW hc hilt j j oj (Nat.le_refl _) hoj hall hw
          rw [hiun] at this
          cases this
        · exact h
      obtain ⟨p1, p2, p3⟩ := Oper.apart_spec hap.1
      have hsi := fun cs b => hsel i oi cs b hi
      have hsj := fun cs b => hsel j oj cs b hoj
      have keep : ∀ (a : Act), Yld F P ops wb oi v a → ∀ u, Yld F P ops wb oi v (a.put oj.dst u) := fun a hy u =>
        hy.of_same (execOp_put oi hsi a oj.dst u p3) (wanted_put oi a oj.dst u p3)
      have keepD : ∀ d, Yld F P ops wb oi v { a with defers := d :: a.defers } := fun d => hy.of_same rfl rfl
      have hfree' : ∀ k ok, ops[k]? = some ok → k ≠ i → (listed.setIfInBounds j true).getD k true = false → waits W k i = true ∨ (oi.apart ops ok = true ∧ tl.contains k = false) := fun k ok hk hki hun => by
        refine hfree k ok hk hki ?_
        by_cases hjk : j = k
        · subst hjk; exact hjun
        · rw [getD_set_ne true hjk] at hun; exact hun
      have fin : ∀ (a' : Act) (w' : World), Yld F P ops wb oi v a' → Ext F wb w' → anyE F P md ops Q tl wb fuel ((listed.setIfInBounds i true).setIfInBounds j true) (a'.put oi.dst v) w' →
          (True → Ext F wb w') ∧ anyE F P md ops Q tl wb (fuel + 1) (listed.setIfInBounds j true) a' w' := fun a' w' hy' he' h' =>
        ⟨fun _ => he', ih _ a' w' (hc.step hj) he' hfree' (ready_mono hr (Ne.symm hji)) hy' (by rw [Array.setIfInBounds_comm _ _ hji]; exact h')⟩
      rw [hap.2] at h1 ⊢
      simp only [Bool.false_eq_true, if_false] at h1 ⊢
      unfold wpOp at *
      simp only [hoj] at *
      rw [wanted_put oj a oi.dst v p1] at h1
      split
      · rename_i hw
        simp only [hw, if_true] at h1
        rcases h1 with h1 | ⟨hasks, hlets⟩
        case inr => exact .inr ⟨by unfold Oper.asks at *; rw [execOp_put oj hsj a oi.dst v p1] at hasks; exact hasks, hlets⟩
        refine .inl ?_
        unfold Oper.wp at *
        rw [execOp_put oj hsj a oi.dst v p1] at h1
        generalize (execOp a.eval oj).run P w = r at *
        cases r with
        | ok n w' =>
          cases n <;> simp only [Oper.upon] at h1 ⊢
          case value u => exact fin _ _ (keep a hy u) (h1.1 trivial) (by rw [← Act.put_comm a v u p2]; exact h1.2)
          case skip => exact fin _ _ (keep a hy _) (h1.1 trivial) (by rw [← Act.put_comm a v undef p2]; exact h1.2)
          case defer d =>
            refine fin _ _ (keep _ (keepD d) _) (h1.1 trivial) ?_
            rw [← Act.put_comm _ v undef p2, ← Act.put_defers]
            exact h1.2
          case enter f args =>
            refine Calls.mono h1 fun e w'' he => ?_
            cases e with
            | returned u => exact fin _ _ (keep a hy u) (he.1 trivial) (by rw [← Act.put_comm a v u p2]; exact he.2)
            | panicked c => exact absurd rfl (he.1 c)
            | outgrown => exact he
          case row row args => exact Rows.mono h1 fun u w'' he => fin _ _ (keep a hy u) (he.1 trivial) (by rw [← Act.put_comm a v u p2]; exact he.2)
        | halt x w' =>
          cases x <;> simp only [Oper.upon] at h1 ⊢
          case panic u => exact absurd rfl (h1.1 _)
      · rename_i hw
        simp only [hw] at h1
        exact fin _ _ (keep a hy _) (h1.1 trivial) (by rw [← Act.put_comm a v undef p2]; exact h1.2)

/-- Pieces that only read, an operation that makes memory behind each; a last piece; the tail, in its forced order. -/
def walk (F : Nat → Prop) (P : Program) (ops : Array Oper) (Q : Exit → Act → World → Prop) (tail : List Oper) : List (List Oper × Oper) → List Oper → World → Act → Prop
  | [], last, w, a => wpQuiet P ops (Cls F w) (fun a' => wpList P ops Q tail a' w) last a
  | (S, oc) :: t, last, w, a => wpQuiet P ops (Cls F w) (fun a' => wpList P ops (Exit.then (fun a'' w'' => Ext F w w'' ∧ walk F P ops Q tail t last w'' a'') (fun _ _ _ => False)) [oc] a' w) S a

theorem tail_sound {tl : List Nat} {wb : World} : ∀ (l : List Nat) (listed : Array Bool) (a : Act) (w : World), chkT md ops tl l listed = true → wpList P ops Q (pick ops.toList l) a w →
    anyE F P md ops Q tl wb l.length listed a w
  | [], listed, a, w, hc, h => ⟨by simpa [chkT] using hc, by simpa [pick, wpList] using h⟩
  | i :: l, listed, a, w, hc, h => by
    simp only [chkT, Bool.and_eq_true, beq_iff_eq] at hc
    obtain ⟨⟨hr, ht⟩, hc⟩ := hc
    refine ⟨fun h0 => (by rw [h0] at hr; cases hr), fun j hj => ?_⟩
    rw [hr] at hj
    obtain rfl : j = i := by simpa using hj
    have hmem : j ∈ Region.ready md ops listed := by rw [hr]; simp
    obtain ⟨_, o, ho, _⟩ := mem_ready.1 hmem
    have hn : nth ops.toList j = o := nth_of (by simpa using ho)
    simp only [pick, hn, wpList] at h
    rw [if_pos ht]
    unfold wpOp
    simp only [ho]
    have fin : ∀ a' w', wpList P ops Q (pick ops.toList l) a' w' → (tl.contains j = false → Ext F wb w') ∧ anyE F P md ops Q tl wb l.length (listed.setIfInBounds j true) a' w' :=
      fun a' w' h' => ⟨fun hf => (by rw [ht] at hf; cases hf), tail_sound l _ a' w' hc h'⟩
    split
    · rename_i hw
      rw [if_pos hw] at h
      rcases h with h | h
      · exact .inl (Oper.wp_mono fin h)
      · exact .inr h
    · rename_i hw
      rw [if_neg hw] at h
      exact fin _ _ h

theorem seg_sound {tl : List Nat} {W : Array Nat} {wb : World} (hW : waitsB md ops W = true) (hs : Region.noSelect ops = true) {k : Array Bool → Bool} {n : Nat} {K : Act → Prop}
    (hk : ∀ (listed : Array Bool) (a : Act), Closed md ops listed → k listed = true → K a → anyE F P md ops Q tl wb n listed a wb) :
    ∀ (l : List Nat) (listed : Array Bool) (a : Act), Closed md ops listed → chkS md ops W tl l listed k = true → wpQuiet P ops (Cls F wb) K (pick ops.toList l) a →
      anyE F P md ops Q tl wb (l.length + n) listed a wb
  | [], listed, a, hcl, hc, h => by simpa using hk listed a hcl (by simpa [chkS] using hc) (by simpa [pick, wpQuiet] using h)
  | i :: l, listed, a, hcl, hc, h => by
    simp only [chkS, Bool.and_eq_true] at hc
    obtain ⟨⟨hr, hf⟩, hc⟩ := hc
    have hmem : i ∈ Region.ready md ops listed := by simpa using hr
    obtain ⟨_, o, ho, _⟩ := mem_ready.1 hmem
    have hn : nth ops.toList i = o := nth_of (by simpa using ho)
    simp only [freeW, ho, Bool.and_eq_true, List.all_eq_true, List.mem_range] at hf
    obtain ⟨⟨hnc, htl⟩, hall⟩ := hf
    simp only [pick, hn, wpQuiet] at h
    obtain ⟨v, hy, h'⟩ := yld_of_quiet hnc h
    have := seg_sound hW hs hk l _ _ (hcl.step hmem) hc h'
    rw [List.length_cons, Nat.add_right_comm]
    refine anyE_first hW ho (Region.noSelect_spec hs) _ listed a wb hcl (Ext.refl _) (fun j oj hj hne hun => ?_) hmem hy this
    have h2 := hall j (Array.getElem?_eq_some_iff.1 hj).1
    simp only [hj, Bool.or_eq_true, beq_iff_eq, hne, hun, Bool.false_eq_true, false_or, Bool.and_eq_true, Bool.not_eq_true'] at h2
    exact h2

theorem walk_sound {tl : List Nat} {W : Array Nat} (hW : waitsB md ops W = true) (hs : Region.noSelect ops = true) : ∀ (pl : List (List Nat × Nat)) (last : List Nat) (listed : Array Bool) (a : Act) (w : World),
    Closed md ops listed → chk md ops W tl pl last listed = true → walk F P ops Q (pick ops.toList tl) (pl.map fun x => (pick ops.toList x.1, nth ops.toList x.2)) (pick ops.toList last) w a →
    anyE F P md ops Q tl w (planSize pl last tl) listed a w
  | [], last, listed, a, w, hcl, hc, h => by
    have := seg_sound (P := P) (Q := Q) hW hs (k := chkT md ops tl tl) (n := tl.length) (K := fun a' => wpList P ops Q (pick ops.toList tl) a' w) (wb := w)
      (fun l a' _ hk h' => tail_sound tl l a' w hk h') last listed a hcl (by simpa [chk] using hc) (by simpa [walk] using h)
    simpa [planSize] using this
  | (S, i) :: t, last, listed, a, w, hcl, hc, h => by
    have := seg_sound (P := P) (Q := Q) hW hs (wb := w) (n := planSize t last tl + 1) (tl := tl)
      (k := fun l' => Region.ready md ops l' == [i] && !tl.contains i && chk md ops W tl t last (l'.setIfInBounds i true))
      (K := fun a' => wpList P ops (Exit.then (fun a'' w'' => Ext F w w'' ∧ walk F P ops Q (pick ops.toList tl) (t.map fun x => (pick ops.toList x.1, nth ops.toList x.2)) (pick ops.toList last) w'' a'') (fun _ _ _ => False)) [nth ops.toList i] a' w)
      (fun l a' hcl' hk h' => by
        simp only [Bool.and_eq_true, beq_iff_eq, Bool.not_eq_true'] at hk
        obtain ⟨⟨hr, ht⟩, hc'⟩ := hk
        refine ⟨fun h0 => (by rw [h0] at hr; cases hr), fun j hj => ?_⟩
        rw [hr] at hj
        obtain rfl : j = i := by simpa using hj
        have hmem : j ∈ Region.ready md ops l := by rw [hr]; simp
        obtain ⟨_, o, ho, _⟩ := mem_ready.1 hmem
        have hn : nth ops.toList j = o := nth_of (by simpa using ho)
        rw [ht]
        simp only [Bool.false_eq_true, if_false]
        simp only [hn, wpList, Exit.then] at h'
        have fin : ∀ a'' w'', (Ext F w w'' ∧ walk F P ops Q (pick ops.toList tl) (t.map fun x => (pick ops.toList x.1, nth ops.toList x.2)) (pick ops.toList last) w'' a'') →
            (True → Ext F w w'') ∧ anyE F P md ops Q tl w (planSize t last tl) (l.setIfInBounds j true) a'' w'' := fun a'' w'' hh =>
          ⟨fun _ => hh.1, anyE_base hh.1 _ _ _ _ (walk_sound hW hs t last _ a'' w'' (hcl'.step hmem) hc' hh.2)⟩
        unfold wpOp
        simp only [ho]
        split
        · rename_i hw
          rw [if_pos hw] at h'
          rcases h' with h' | ⟨_, a0, w0, hq⟩
          · refine .inl (wp_monoQ (Q' := Exit.then (fun a'' w'' => Ext F w w'' ∧ walk F P ops Q (pick ops.toList tl) (t.map fun x => (pick ops.toList x.1, nth ops.toList x.2)) (pick ops.toList last) w'' a'') (fun _ _ _ => False)) (fun c a1 w1 hq => hq.elim) (fun a1 w1 hq => hq.elim) (Oper.wp_mono fin h'))
          · exact hq.elim
        · rename_i hw
          rw [if_neg hw] at h'
          exact fin _ _ h') S listed a hcl (by simpa [chk] using hc) (by simpa [walk] using h)
    have e : planSize ((S, i) :: t) last tl = S.length + (planSize t last tl + 1) := by simp [planSize]; omega
    rw [e]
    exact this

theorem region (F : Nat → Prop) {id : Nat} {l : List Oper} {a : Act} {w : World} (pl : List (List Nat × Nat)) (last tl : List Nat) (hm : P.follows .mixedOrders = true)
    (hB : (waitsB .any l.toArray (Region.before l.toArray) && Region.noSelect l.toArray && chk .any l.toArray (Region.before l.toArray) tl pl last (Array.replicate l.length false) && planSize pl last tl == l.length) = true)
    (h : ∀ w', Rg.Ext w w' → walk F P l.toArray Q (pick l tl) (pl.map fun x => (pick l x.1, nth l x.2)) (pick l last) w' a) : (Code.region id l.toArray true).wp P Q a w := by
  simp only [Bool.and_eq_true, beq_iff_eq] at hB
  obtain ⟨⟨⟨hW, hs⟩, hc⟩, hsz⟩ := hB
  refine wp_region_any hm (anyE_any (F := F) (tl := tl) (wb := { w with drawn := w.drawn + 1 }) _ _ _ _ ?_)
  have := walk_sound (F := F) (P := P) (Q := Q) (md := .any) (ops := l.toArray) (tl := tl) hW hs pl last (Array.replicate l.length false) a { w with drawn := w.drawn + 1 } (by
    intro j o _ hl
    exfalso
    simp [Array.getElem?_replicate] at hl
    split at hl <;> simp_all) (by simpa using hc) (by simpa using h _ (Below.drew (Below.refl _ w)))
  rw [hsz] at this
  simpa using this

/-- The first piece and its operation; what follows is held back. -/
theorem walk_at {l : List Oper} {tail last : List Oper} {S : List Nat} {i : Nat} {t : List (List Nat × Nat)} {w : World} {a : Act}
    (h : ∀ K : Act → World → Prop, RowKit.Hid (∀ a' w', walk F P ops Q tail (t.map fun x => (pick l x.1, nth l x.2)) last w' a' → K a' w') →
      wpQuiet P ops (Cls F w) (fun a' => wpList P ops (Exit.then (fun a'' w'' => Ext F w w'' ∧ K a'' w'') (fun _ _ _ => False)) [nth l i] a' w) (pick l S) a) :
    walk F P ops Q tail (((S, i) :: t).map fun x => (pick l x.1, nth l x.2)) last w a :=
  h _ (Lib.hid fun _ _ h => h)
/-- The last piece and the tail. -/
theorem walk_end {l : List Oper} {tail last : List Oper} {w : World} {a : Act}
    (h : wpQuiet P ops (Cls F w) (fun a' => wpList P ops Q tail a' w) last a) :
    walk F P ops Q tail (([] : List (List Nat × Nat)).map fun x => (pick l x.1, nth l x.2)) last w a := h
end
end Rf
end Go.Proofs.Ytclkpjefklahfaa

/- Walks of package word: Int, sum, Add, Sub, Cmp. -/
namespace Go.Proofs.Ytclkpjefklahfaa
open Go.RowKit Rp Rg Ops Mm Ar Wm
namespace Wd
theorem aggW : Agg Try.prog 34 4 := ⟨⟨.array 4 32, by kernel_rfl, rfl⟩, by kernel_rfl⟩

theorem Add64 (x y c : Nat) (hc : c ≤ 1) (w : World) : (callFunc 22 #[.int .u64 (x : Int), .int .u64 (y : Int), .int .u64 (c : Int)]).run Try.prog w =
    .ok (.value (.tuple #[.int .u64 (((x + y + c) % m64 : Nat) : Int), .int .u64 (((x + y + c) / m64 : Nat) : Int)])) w := by
  rw [run_callFunc_extern (e := add64Entry) Try.func22 (by kernel_rfl) (by kernel_rfl) (by kernel_rfl) (by kernel_rfl)]
  rw [run_add64 _ _ _ (by omega) (by omega) (by omega) (by omega)]
  simp [Result.andThen, m64]
/-- Cell k is set: the rest is as it was. -/
theorem grow_at {α : Type} (V : α → Value) (f : Nat → α) (z : α) (k i : Nat) : V (if i < k + 1 then f i else z) = if i = k then V (f k) else V (if i < k then f i else z) := by
  by_cases h : i = k
  · subst h; simp
  · rw [if_neg h]
    by_cases h2 : i < k
    · rw [if_pos h2, if_pos (Nat.lt_succ_of_lt h2)]
    · rw [if_neg h2, if_neg (by omega)]

theorem word_small (n : Nat) (h0 : n < m64) : wordA n = #[.int .u64 (n : Int), .int .u64 0, .int .u64 0, .int .u64 0] := by
  simp only [wordA, arr, List.range_succ_eq_map, List.range_zero, List.map_cons, List.map_nil, u64V]
  have e0 : limb n 0 = n := by simp [limb, Nat.mod_eq_of_lt h0]
  have e : ∀ k, limb n (k + 1) = 0 := fun k => by
    unfold limb
    rw [Nat.div_eq_of_lt (Nat.lt_of_lt_of_le h0 (by rw [Nat.pow_succ]; exact Nat.le_mul_of_pos_left _ (pow_pos' k)))]
    simp
  simp [e0, e]

theorem IntW (n : Nat) (hn : n < m64) (w : World) : Calls Try.prog 14 #[.int .u64 (n : Int)] w fun e w' => e = .returned (.agg (wordA n)) ∧ Ext w w' := by
  have hz := word_small n hn
  have HZ := Lib.hid hz
  clear hz
  have s1 := (St.start w).alloc (arr 4 fun _ => .int .u64 0) 34
  have s2 := s1.setRow 0 rfl #[.int .u64 (n : Int), .int .u64 0, .int .u64 0, .int .u64 0]
  go_enter Try.func14, Try.ntmps14
  go_wp2_with (refine stAll aggW (vs := #[.int .u64 (n : Int), .int .u64 0, .int .u64 0, .int .u64 0]) rfl _ _ rfl (by rfl) (by rfl) (s1.at 0 rfl) (by rfl) (by rfl) (by simp [Value.oneCell']) ?_)
  go_wp2
  refine bodyPost_ret (v := .agg _) (ret_cell aggW rfl rfl (s2.at 0 rfl) rfl) rfl ⟨by rw [HZ.out], s2.below⟩
/-- The sum, and what is carried. -/
theorem sum (x y : Nat) (w : World) : Calls Try.prog 20 #[.agg (wordA x), .agg (wordA y)] w fun e w' => e = .returned (.tuple #[.agg (wordA (x + y)), .int .u64 (carry x y 4 : Int)]) ∧ Ext w w' := by
  have hadd := fun k => Add64 (limb x k) (limb y k) (carry x y k) (carry_le x y k)
  simp only [sum_limb, sum_carry] at hadd
  go_enter Try.func20, Try.ntmps20
  go_wp2
  have s1 := (((St.start w).alloc (wordA x) 34).alloc' (wordA y) 34 (w.heap.size + 1) (by simp)).alloc' (arr 4 fun _ => u64V 0) 34 (w.heap.size + 1 + 1) (by simp)
  go_loopw [5, 7] (fun c i wr => ∃ k : Nat, k ≤ 4 ∧ i = .int .i64 k ∧ c = .int .u64 (carry x y k : Int) ∧
      St w wr [(w.heap.size + 1 + 1, 34, arr 4 fun i => u64V (if i < k then limb (x + y) i else 0)), (w.heap.size + 1, 34, wordA y), (w.heap.size, 34, wordA x)]) (fun _ i _ => 4 - (intOf i).toNat)
  case atStart => exact ⟨0, by omega, rfl, by rw [carry_zero]; rfl, s1⟩
  case round =>
    obtain ⟨k, hk, rfl, rfl, st⟩ := hrel
    by_cases hlt : k < 4
    · have a1 := st.cell 2 rfl k (wordA_get x k hlt)
      have a2 := st.cell 1 rfl k (wordA_get y k hlt)
      go_wp2
      refine Rf.region (· ≠ w.heap.size + 1 + 1) [([0, 1, 2, 3, 4, 5, 6, 7], 8), ([9, 10, 11, 12], 13)] [14] [] (by kernel_rfl) (by kernel_rfl) fun w' hw' => ?_
      have st' := st.ext hw'
      have b1 := Rf.later (F := (· ≠ w.heap.size + 1 + 1)) (st'.cell 2 rfl k (wordA_get x k hlt)) (by simp; omega)
      have b2 := Rf.later (F := (· ≠ w.heap.size + 1 + 1)) (st'.cell 1 rfl k (wordA_get y k hlt)) (by simp)
      have c3 := st'.cell 0 rfl k (arr_get 4 _ k hlt)
      have f3 := st'.frozen 0 rfl k
      have hc := hadd k
      simp only [Rf.walk, Rg.pick, Rg.nth, List.map_cons, List.map_nil]
      repeat (go_big_quiet_step (fail))
      refine wpQuiet_nil ?_
      go_wp2
      refine ⟨Rf.Ext.refl _, ?_⟩
      repeat (go_big_quiet_step (fail))
      refine wpQuiet_nil ?_
      go_wp2
      refine ⟨Rf.Ext.setCell _ _ _ (by simp), ?_⟩
      repeat (go_big_quiet_step (fail))
      refine wpQuiet_nil ?_
      go_wp2
      go_roundw
      case rel =>
        refine ⟨k + 1, by omega, by simp, rfl, ?_⟩
        exact st'.setFn 0 rfl k _ (fun i hi => grow_at (u64V) (limb (x + y)) 0 k i) rfl
      case measure => simp [intOf]; omega
    · obtain rfl : k = 4 := by omega
      have e : (arr 4 fun i => u64V (if i < 4 then limb (x + y) i else 0)) = wordA (x + y) := arr_ext fun i hi => by rw [if_pos hi]
      rw [e] at st
      have s2 := st.setRow 0 rfl (wordA (x + y))
      go_wp2_with (first
        | refine ldAll aggW rfl _ rfl (by rfl) (st.at 0 rfl) (by rfl) ?_
        | refine stAll aggW (vs := wordA (x + y)) rfl _ _ rfl (by rfl) (by rfl) (st.at 0 rfl) (by rfl) (by rfl) (wordA_mem _) ?_)
      go_wp2
      refine bodyPost_ret (v := .tuple #[.agg (wordA (x + y)), .int .u64 (carry x y 4 : Int)]) (ret_two rfl (slot_cell aggW rfl (s2.at 0 rfl) (by rfl)) (slot_tmp rfl)) rfl ⟨rfl, s2.below⟩
def sub64Entry : Array Value → Sem Value := fun args => do
  let (x, y, b) ← Extern.MathBitsCarry.three "Sub64" args
  pure (Extern.MathBitsCarry.pair ((x + Extern.MathBitsCarry.m64 - y - b) % Extern.MathBitsCarry.m64) (if x < y + b then 1 else 0))
theorem run_sub64 {P : Program} (x y c : Nat) (hc : c ≤ 1) (w : World) : (sub64Entry #[.int .u64 x, .int .u64 y, .int .u64 c]).run P w =
    .ok (.tuple #[.int .u64 ((x + m64 - y - c) % m64 : Nat), .int .u64 ((if x < y + c then 1 else 0 : Nat) : Int)]) w := by
  have : c = 0 ∨ c = 1 := by omega
  rcases this with rfl | rfl <;> rfl
set_option maxHeartbeats 1000000 in
theorem Mul64 (x y : Nat) (hx : x < m64) (hy : y < m64) (w : World) :
    Calls Try.prog 23 #[.int .u64 x, .int .u64 y] w fun e w' => e = .returned (.tuple #[.int .u64 ((x * y / m64 : Nat) : Int), .int .u64 ((x * y % m64 : Nat) : Int)]) ∧ w' = w := by
  unfold m64 at *
  obtain ⟨bd, bt, bw, hhi⟩ := Lib.mul64_hi x y hx hy
  have ba := Lib.half_mul_le (a := x / 4294967296) (b := y / 4294967296) (by omega) (by omega)
  have bb := Lib.half_mul_le (a := x / 4294967296) (b := y % 4294967296) (by omega) (by omega)
  have bc := Lib.half_mul_le (a := x % 4294967296) (b := y / 4294967296) (by omega) (by omega)
  have ba' : x / 4294967296 * (y / 4294967296) < 18446744073709551616 := by omega
  have bb' : x / 4294967296 * (y % 4294967296) < 18446744073709551616 := by omega
  have bc' : x % 4294967296 * (y / 4294967296) < 18446744073709551616 := by omega
  have bh1 : x / 4294967296 * (y / 4294967296) + (x / 4294967296 * (y % 4294967296) + x % 4294967296 * (y % 4294967296) / 4294967296) / 4294967296 < 18446744073709551616 := by omega
  have bh : x / 4294967296 * (y / 4294967296) + (x / 4294967296 * (y % 4294967296) + x % 4294967296 * (y % 4294967296) / 4294967296) / 4294967296 + ((x / 4294967296 * (y % 4294967296) + x % 4294967296 * (y % 4294967296) / 4294967296) % 4294967296 + x % 4294967296 * (y / 4294967296)) / 4294967296 < 18446744073709551616 := by omega
  go_enter Try.func23, Try.ntmps23
  go_wp2
  simp only [Mul64.maskN x hx, Mul64.maskN y hy, Mul64.divN, Mul64.mulN, Mul64.addN, Mul64.wrapN _ bd, Mul64.wrapN _ bb', Mul64.wrapN _ bt, Mul64.maskN _ bt, Mul64.wrapN _ bc', Mul64.wrapN _ bw, Mul64.wrapN _ ba', Mul64.wrapN _ bh1, Mul64.wrapN _ bh, Mul64.wrapM (x * y)]
  rw [hhi]
  go_ret2
  exact ⟨rfl, rfl⟩
end Wd
end Go.Proofs.Ytclkpjefklahfaa

/- Walks of package word: Add, Sub, Cmp. -/
namespace Go.Proofs.Ytclkpjefklahfaa
open Go.RowKit Rp Rg Ops Mm Ar Wm
namespace Wd
theorem Add (x y : Nat) (w : World) : Calls Try.prog 16 #[.agg (wordA x), .agg (wordA y)] w fun e w' => e = .returned (.agg (wordA (x + y))) ∧ Ext w w' := by
  go_enter Try.func16, Try.ntmps16
  have s1 := (((St.start w).alloc (wordA x) 34).alloc' (wordA y) 34 (w.heap.size + 1) (by simp)).alloc' (arr 4 fun _ => u64V 0) 34 (w.heap.size + 1 + 1) (by simp)
  go_wp2_with (first
    | refine ldAll aggW rfl _ rfl (by rfl) (s1.at 2 rfl) (by rfl) ?_
    | refine ldAll aggW rfl _ rfl (by rfl) (s1.at 1 rfl) (by rfl) ?_
    | (go_at_call 20
       refine (sum x y _).mono ?_
       rintro e w1 ⟨rfl, hw1⟩
       have s2 := (s1.ext hw1).alloc (arr 4 fun _ => .int .u64 0) 34
       have s3 := s2.setRow 0 rfl (wordA (x + y))
       have s4 := s3.setRow 1 rfl (wordA (x + y)))
    | refine stAll aggW (vs := wordA (x + y)) rfl _ _ rfl (by rfl) (by rfl) (s2.at 0 rfl) (by rfl) (by rfl) (wordA_mem _) ?_
    | refine ldAll aggW rfl _ rfl (by rfl) (s3.at 0 rfl) (by rfl) ?_
    | refine stAll aggW (vs := wordA (x + y)) rfl _ _ rfl (by rfl) (by rfl) (s3.at 1 rfl) (by rfl) (by rfl) (wordA_mem _) ?_)
  go_wp2
  refine bodyPost_ret (v := .agg _) (ret_cell aggW rfl rfl (s4.at 1 rfl) rfl) rfl ⟨rfl, s4.below⟩
theorem cmp_step {x y k : Nat} (h : x / m64 ^ (k + 1) = y / m64 ^ (k + 1)) : (limb x k < limb y k ↔ x / m64 ^ k < y / m64 ^ k) ∧ (x / m64 ^ k = y / m64 ^ k ↔ limb x k = limb y k) := by
  unfold limb
  rw [Nat.pow_succ, ← Nat.div_div_eq_div_mul, ← Nat.div_div_eq_div_mul] at h
  generalize x / m64 ^ k = A at *
  generalize y / m64 ^ k = B at *
  have := Nat.div_add_mod A m64
  have := Nat.div_add_mod B m64
  rw [h] at *
  omega

theorem Cmp (x y : Nat) (w : World) : Calls Try.prog 13 #[.agg (wordA x), .agg (wordA y)] w fun e w' => e = .returned (.int .i64 (cmp x y)) ∧ Ext w w' := by
  obtain ⟨X, hX, hXe, hXl⟩ : ∃ X, wordA x = wordA X ∧ x % M256 = X ∧ X < M256 := ⟨x % M256, (wordA_mod x).symm, rfl, Nat.mod_lt _ M256_pos⟩
  obtain ⟨Y, hY, hYe, hYl⟩ : ∃ Y, wordA y = wordA Y ∧ y % M256 = Y ∧ Y < M256 := ⟨y % M256, (wordA_mod y).symm, rfl, Nat.mod_lt _ M256_pos⟩
  obtain ⟨c, hc⟩ : ∃ c, c = cmp x y := ⟨_, rfl⟩
  rw [hX, hY, ← hc]
  have clt : X < Y → c = -1 := fun h => by rw [hc, cmp, hXe, hYe, if_pos h]
  have cgt : Y < X → c = 1 := fun h => by rw [hc, cmp, hXe, hYe, if_neg (by omega), if_pos h]
  have ceq : X = Y → c = 0 := fun h => by rw [hc, cmp, hXe, hYe, if_neg (by omega), if_neg (by omega)]
  clear hX hY hXe hYe hc
  go_enter Try.func13, Try.ntmps13
  have s1 := ((St.start w).alloc (wordA X) 34).alloc' (wordA Y) 34 (w.heap.size + 1) (by simp)
  go_wp2
  go_loopw [5] (fun i wr => ∃ (k : Nat) (z : Int), k ≤ 4 ∧ z = (k : Int) - 1 ∧ i = .int .i64 z ∧ X / m64 ^ k = Y / m64 ^ k ∧
      St w wr [(w.heap.size + 1, 34, wordA Y), (w.heap.size, 34, wordA X)]) (fun i _ => (intOf i + 1).toNat)
  case atStart =>
    refine ⟨4, 3, by omega, rfl, rfl, ?_, s1⟩
    rw [Nat.div_eq_of_lt (by exact hXl), Nat.div_eq_of_lt (by exact hYl)]
  case round =>
    obtain ⟨k, z, hk, hz, rfl, he, st⟩ := hrel
    cases k with
    | zero =>
      have hxy : X = Y := by simpa using he
      obtain rfl : z = -1 := by omega
      clear hz
      go_wp2
      go_ret
      exact ⟨by rw [ceq hxy]; rfl, st.below⟩
    | succ k =>
      have C := Lib.hid (cmp_step he)
      obtain rfl : z = (k : Int) := by omega
      clear hz
      go_wp2
      refine Rg.region [] [0, 1, 2, 3, 4, 5, 6, 7] [] (by kernel_rfl) (by kernel_rfl) fun w' hw' => ?_
      have st' := st.ext hw'
      have b1 := Rg.later (st'.cell 1 rfl k (wordA_get X k (by omega)))
      have b2 := Rg.later (st'.cell 0 rfl k (wordA_get Y k (by omega)))
      simp only [Rg.walk, Rg.pick, Rg.nth, List.map_nil]
      repeat (go_big_quiet_step (fail))
      refine wpQuiet_nil ?_
      by_cases h1 : limb X k < limb Y k
      · have : X < Y := by
          refine Nat.lt_of_not_le fun h => ?_
          have := Nat.div_le_div_right (c := m64 ^ k) h
          have := C.out.1.1 h1
          omega
        have hd : decide (limb X k < limb Y k) = true := by simpa using h1
        go_wp2
        go_ret
        exact ⟨by rw [clt this]; rfl, st'.below⟩
      · have hd : decide (limb X k < limb Y k) = false := by simpa using h1
        go_wp2
        refine Rg.region [] [0, 1, 2, 3, 4, 5, 6, 7] [] (by kernel_rfl) (by kernel_rfl) fun w2 hw2 => ?_
        have st2 := st'.ext hw2
        have b1 := Rg.later (st2.cell 1 rfl k (wordA_get X k (by omega)))
        have b2 := Rg.later (st2.cell 0 rfl k (wordA_get Y k (by omega)))
        simp only [Rg.walk, Rg.pick, Rg.nth, List.map_nil]
        repeat (go_big_quiet_step (fail))
        refine wpQuiet_nil ?_
        by_cases h2 : limb Y k < limb X k
        · have : Y < X := by
            refine Nat.lt_of_not_le fun h => ?_
            have h3 := Nat.div_le_div_right (c := m64 ^ k) h
            have h4 := C.out
            have h5 : X / m64 ^ k ≠ Y / m64 ^ k := fun h => by have := h4.2.1 h; omega
            have := h4.1.2 (by omega)
            omega
          have hd2 : decide (limb Y k < limb X k) = true := by simpa using h2
          go_wp2
          go_ret
          exact ⟨by rw [cgt this]; rfl, st2.below⟩
        · have hd2 : decide (limb Y k < limb X k) = false := by simpa using h2
          go_wp2
          go_roundw
          case rel => exact ⟨k, (k : Int) - 1, by omega, rfl, rfl, C.out.2.2 (by omega), st2⟩
          case measure => simp [intOf]
end Wd
end Go.Proofs.Ytclkpjefklahfaa

/- Walks of package word: product, Mul. -/
namespace Go.Proofs.Ytclkpjefklahfaa
open Go.RowKit Rp Rg Ops Mm Ar Wm
namespace Wd
theorem agg8 : Agg Try.prog 52 8 := ⟨⟨.array 8 32, by kernel_rfl, rfl⟩, by kernel_rfl⟩
/-- The eight parts of a product. -/
def wideA (x : Nat) : Array Value := arr 8 fun i => u64V (limb x i)

theorem inner_sum {f : Nat → Nat} {x y k j c P L Q : Nat} (h : val f 8 + c * m64 ^ (k + j) = x % m64 ^ k * y + limb x k * (y % m64 ^ j) * m64 ^ k) (hP : P = limb x k * limb y j + f (k + j) + c)
    (hL : L = P % m64) (hQ : Q = P / m64) (hk : k + j < 8) :
    val (fun i => if i = k + j then L else f i) 8 + Q * m64 ^ (k + (j + 1)) = x % m64 ^ k * y + limb x k * (y % m64 ^ (j + 1)) * m64 ^ k := by
  have h1 := val_set (f := f) (n := 8) (k := k + j) L hk
  have h2 := Nat.mod_add_div P m64
  rw [← hL, ← hQ] at h2
  have e1 : y % m64 ^ (j + 1) = y % m64 ^ j + m64 ^ j * limb y j := by rw [Nat.pow_succ, Nat.mod_mul]; rfl
  have e2 : m64 ^ (k + (j + 1)) = m64 * m64 ^ (k + j) := by rw [← Nat.add_assoc, Nat.pow_succ, Nat.mul_comm]
  have e3 : limb x k * (m64 ^ j * limb y j) * m64 ^ k = limb x k * limb y j * m64 ^ (k + j) := by rw [Nat.pow_add]; ac_rfl
  rw [e1, e2, Nat.mul_add, Nat.add_mul, e3]
  have e4 : P * m64 ^ (k + j) = L * m64 ^ (k + j) + Q * (m64 * m64 ^ (k + j)) := by rw [← h2, Nat.add_mul]; ac_rfl
  rw [hP, Nat.add_mul, Nat.add_mul] at e4
  omega

theorem product (x y : Nat) (hx : x < M256) (hy : y < M256) (w : World) : Calls Try.prog 21 #[.agg (wordA x), .agg (wordA y)] w fun e w' => e = .returned (.agg (wideA (x * y))) ∧ Ext w w' := by
  go_enter Try.func21, Try.ntmps21
  have s1 := ((((St.start w).alloc (wordA x) 34).alloc' (wordA y) 34 (w.heap.size + 1) (by simp)).alloc' (arr 8 fun _ => u64V 0) 52 (w.heap.size + 1 + 1) (by simp)).alloc' (arr 8 fun _ => u64V 0) 52 (w.heap.size + 1 + 1 + 1) (by simp)
  go_wp2_with (first
    | refine ldAll aggW rfl _ rfl (by rfl) (s1.at 3 rfl) (by rfl) ?_)
  go_loopw [15] (fun c wr => ∃ k : Nat, k ≤ 4 ∧ c = .int .i64 k ∧
      St w wr [(w.heap.size + 1 + 1 + 1, 52, arr 8 fun i => u64V (limb (x % m64 ^ k * y) i)), (w.heap.size + 1 + 1, 52, arr 8 fun _ => u64V 0), (w.heap.size + 1, 34, wordA y), (w.heap.size, 34, wordA x)]) (fun i _ => 4 - (intOf i).toNat)
  case atStart =>
    refine ⟨0, by omega, rfl, ?_⟩
    have e : (arr 8 fun i => u64V (limb (x % m64 ^ 0 * y) i)) = arr 8 fun _ => u64V 0 := arr_ext fun i hi => by simp [Nat.mod_one, limb]
    rw [e]; exact s1
  case round =>
    obtain ⟨k, hk, rfl, st⟩ := hrel
    by_cases hlt : k < 4
    · have ak := run_idx (P := Try.prog) (t := 34) (e := 32) (n := 4) (d := .int .u64) (by kernel_rfl) (by kernel_rfl) rfl (by kernel_rfl) hlt (wordA_get x k hlt) .i64

      go_wp2_with (first
        | refine ldAll aggW rfl _ rfl (by rfl) (st.at 2 rfl) (by rfl) ?_)
      go_loopw [8, 20] (fun c jv wr => ∃ (j c' : Nat) (f : Nat → Nat), j ≤ 4 ∧ jv = .int .i64 j ∧ c = .int .u64 (c' : Int) ∧ c' < m64 ∧ (∀ i, i < 8 → f i < m64) ∧ (∀ i, k + 4 ≤ i → i < 8 → f i = 0) ∧
        val f 8 + c' * m64 ^ (k + j) = x % m64 ^ k * y + limb x k * (y % m64 ^ j) * m64 ^ k ∧
        St w wr [(w.heap.size + 1 + 1 + 1, 52, arr 8 fun i => u64V (f i)), (w.heap.size + 1 + 1, 52, arr 8 fun _ => u64V 0), (w.heap.size + 1, 34, wordA y), (w.heap.size, 34, wordA x)]) (fun _ i _ => 4 - (intOf i).toNat)
      case atStart => 
        have hV : x % m64 ^ k * y < m64 ^ (k + 4) := by
          rw [Nat.pow_add]
          exact Nat.mul_lt_mul_of_lt_of_lt (Nat.mod_lt _ (pow_pos' k)) hy
        refine ⟨0, 0, limb (x % m64 ^ k * y), by omega, rfl, rfl, m64_pos, fun i _ => limb_lt _ _, fun i h1 h2 => ?_, ?_, st⟩
        · unfold limb
          rw [Nat.div_eq_of_lt (Nat.lt_of_lt_of_le hV (Nat.pow_le_pow_right m64_pos h1))]
          rfl
        · rw [val_limb, Nat.mod_eq_of_lt (Nat.lt_of_lt_of_le hV (Nat.pow_le_pow_right m64_pos (by omega))), Nat.pow_zero, Nat.mod_one]
          simp
      case round =>
        obtain ⟨j, c, f, hj, rfl, rfl, hc, hf, hz, hv, st⟩ := hrel
        by_cases hlj : j < 4
        · have aj := run_idx (P := Try.prog) (t := 34) (e := 32) (n := 4) (d := .int .u64) (by kernel_rfl) (by kernel_rfl) rfl (by kernel_rfl) hlj (wordA_get y j hlj) .i64
          have c1 : wr.cell? ⟨w.heap.size + 1 + 1 + 1, k + j, none⟩ = some (.int .u64 (f (k + j) : Int)) := st.cell 0 rfl (k + j) (arr_get 8 _ (k + j) (by omega))
          have f1 := st.frozen 0 rfl (k + j)
          have m1 := Mul64 (limb x k) (limb y j) (limb_lt _ _) (limb_lt _ _)
          have A1 := Lib.hid hv
          clear hv
          have hp := hf (k + j) (by omega)
          have slt := step_lt (limb_lt x k) (limb_lt y j) hp hc
          have slo := step_lo (limb x k) (limb y j) (f (k + j)) c
          have shi := step_hi (limb x k) (limb y j) (f (k + j)) c
          have a1 := Add64 (limb x k * limb y j % m64) (f (k + j)) 0 (by omega)
          have a2 := Add64 ((limb x k * limb y j % m64 + f (k + j)) % m64) c 0 (by omega)
          have e0 : ((0 : Nat) : Int) = 0 := rfl
          simp only [Nat.add_zero, e0] at a1 a2
          clear e0
          obtain ⟨P, hP⟩ : ∃ P, P = limb x k * limb y j + f (k + j) + c := ⟨_, rfl⟩
          rw [← hP] at slt slo shi
          generalize limb x k * limb y j / m64 = H0 at m1 shi
          generalize limb x k * limb y j % m64 = L0 at m1 a1 a2 slo shi
          generalize (L0 + f (k + j)) / m64 = C1 at a1 shi
          generalize (L0 + f (k + j)) % m64 = L1 at a1 a2 slo shi
          generalize (L1 + c) / m64 = C2 at a2 shi
          generalize (L1 + c) % m64 = L2 at a2 slo
          have S := Lib.hid (And.intro slo shi)
          clear slo shi
          go_wp2_with (first
            | (go_at_call 23
               refine (m1 _).mono ?_
               rintro e w1 ⟨rfl, rfl⟩))
          go_roundw
          case rel =>
            have hs := S.out
            have hlt2 : H0 + C1 + C2 < m64 := by rw [hs.2]; exact Nat.div_lt_of_lt_mul slt
            refine ⟨j + 1, H0 + C1 + C2, fun i => if i = k + j then L2 else f i, by omega, by simp, ?_, hlt2, fun i hi => ?_, fun i h1 h2 => ?_, ?_, st.setFn 0 rfl (k + j) _ (fun i hi => ?_) rfl⟩
            · rw [IntKind.wrap_u64, IntKind.wrap_u64]
              unfold m64 at hlt2
              congr 1
              omega
            · simp only
              split
              · rw [hs.1]; exact Nat.mod_lt _ m64_pos
              · exact hf i hi
            · simp only
              rw [if_neg (by omega)]
              exact hz i h1 h2
            · exact inner_sum A1.out hP hs.1 hs.2 (by omega)
            · by_cases h : i = k + j
              · simp [h, u64V]
              · simp [h, u64V]
          case measure => simp [intOf]; omega
        · obtain rfl : j = 4 := by omega
          have c1 : wr.cell? ⟨w.heap.size + 1 + 1 + 1, k + 4, none⟩ = some (.int .u64 (f (k + 4) : Int)) := st.cell 0 rfl (k + 4) (arr_get 8 _ (k + 4) (by omega))
          have f1 := st.frozen 0 rfl (k + 4)
          have A1 := Lib.hid hv
          clear hv
          go_wp2
          go_roundw
          case rel =>
            refine ⟨k + 1, by omega, by simp, ?_⟩
            have hval : val (fun i => if i = k + 4 then c else f i) 8 = x % m64 ^ (k + 1) * y := by
              have h1 := val_set (f := f) (n := 8) (k := k + 4) c (by omega)
              have h2 := A1.out
              rw [hz (k + 4) (by omega) (by omega), Nat.zero_mul, Nat.add_zero] at h1
              rw [h1, h2, Nat.mod_eq_of_lt (show y < m64 ^ 4 from hy), Nat.pow_succ, Nat.mod_mul, Nat.add_mul]
              unfold limb
              ac_rfl
            refine st.setFn 0 rfl (k + 4) _ (fun i hi => ?_) rfl
            have hlt8 : ∀ i, i < 8 → (fun i => if i = k + 4 then c else f i) i < m64 := fun i hi => by
              simp only
              split
              · exact hc
              · exact hf i hi
            rw [← hval, limb_val hlt8 hi]
            by_cases h : i = k + 4
            · simp [h, u64V]
            · simp [h, u64V]
          case measure => simp [intOf]; omega
    · obtain rfl : k = 4 := by omega
      have e : (arr 8 fun i => u64V (limb (x % m64 ^ 4 * y) i)) = wideA (x * y) := by
        rw [Nat.mod_eq_of_lt (show x < m64 ^ 4 from hx)]; rfl
      rw [e] at st
      have s2 := st.setRow 1 rfl (wideA (x * y))
      go_wp2_with (first
        | refine ldAll agg8 rfl _ rfl (by rfl) (st.at 0 rfl) (by rfl) ?_
        | refine stAll agg8 (vs := wideA (x * y)) rfl _ _ rfl (by rfl) (by rfl) (st.at 1 rfl) (by rfl) (by rfl) (arr_mem fun _ _ => rfl) ?_)
      go_wp2
      refine bodyPost_ret (v := .agg _) (ret_cell agg8 rfl rfl (s2.at 1 rfl) rfl) rfl ⟨rfl, s2.below⟩
theorem wide_low (x : Nat) : (wideA x).extract 0 (0 + 4) = wordA x := by
  unfold wideA wordA arr
  simp [List.range_succ_eq_map]

theorem Mul (x y : Nat) (w : World) : Calls Try.prog 17 #[.agg (wordA x), .agg (wordA y)] w fun e w' => e = .returned (.agg (wordA (x * y))) ∧ Ext w w' := by
  have hr : wordA (x * y) = wordA (x % M256 * (y % M256)) := wordA_eq (by rw [Nat.mul_mod])
  rw [hr, ← wordA_mod x, ← wordA_mod y]
  have hx := Nat.mod_lt x M256_pos
  have hy := Nat.mod_lt y M256_pos
  generalize x % M256 = X at *
  generalize y % M256 = Y at *
  clear hr
  have hp := product X Y hx hy
  have hlow := Lib.hid (wide_low (X * Y))
  have hat := fun g => run_arrayAt (P := Try.prog) (t := 34) (n := 4) (e := 32) (by kernel_rfl) g 0 4 8 (by omega)
  go_enter Try.func17, Try.ntmps17
  have s1 := (((St.start w).alloc (wordA X) 34).alloc' (wordA Y) 34 (w.heap.size + 1) (by simp)).alloc' (arr 4 fun _ => u64V 0) 34 (w.heap.size + 1 + 1) (by simp)
  go_wp2_with (first
    | refine ldAll aggW rfl _ rfl (by rfl) (s1.at 2 rfl) (by rfl) ?_
    | refine ldAll aggW rfl _ rfl (by rfl) (s1.at 1 rfl) (by rfl) ?_
    | (go_at_call 21
       refine (hp _).mono ?_
       rintro e w1 ⟨rfl, hw1⟩
       have s2 := (s1.ext hw1).alloc (arr 8 fun _ => .int .u64 0) 52
       have s3 := s2.setRow 0 rfl (wideA (X * Y))
       have s4 := s3.setRow 1 rfl (wordA (X * Y)))
    | refine stAll agg8 (vs := wideA (X * Y)) rfl _ _ rfl (by rfl) (by rfl) (s2.at 0 rfl) (by rfl) (by rfl) (arr_mem fun _ _ => rfl) ?_
    | (refine ld aggW rfl _ rfl (by rfl) (s3.at 0 rfl) (by simp [wideA, arr_size]) ?_; rw [hlow.out])
    | refine stAll aggW (vs := wordA (X * Y)) rfl _ _ rfl (by rfl) (by rfl) (s3.at 1 rfl) (by rfl) (by rfl) (wordA_mem _) ?_)
  go_wp2
  refine bodyPost_ret (v := .agg _) (ret_cell aggW rfl rfl (s4.at 1 rfl) rfl) rfl ⟨rfl, s4.below⟩
end Wd
end Go.Proofs.Ytclkpjefklahfaa

/- Words over the lifted state: as lists of four numbers; contracts of package word. -/
namespace Go.Proofs.Ytclkpjefklahfaa
open Go.RowKit Rg Wm Ar
namespace Lf
def limbs (x : Nat) : List Nat := [limb x 0, limb x 1, limb x 2, limb x 3]
abbrev wV (x : Nat) : V := .a ((limbs x).map uK)
theorem limbs_len (x : Nat) : (limbs x).length = 4 := rfl
theorem limbs_get (x : Nat) {k : Nat} (h : k < 4) : (limbs x).getD k default = limb x k := by
  match k, h with
  | 0, _ => rfl
  | 1, _ => rfl
  | 2, _ => rfl
  | 3, _ => rfl
theorem limb_lt64 (x k : Nat) : limb x k < 18446744073709551616 := limb_lt x k
theorem limbs_lt (x k : Nat) : (limbs x).getD k default < 18446744073709551616 := by
  rcases Nat.lt_or_ge k 4 with h | h
  · rw [limbs_get x h]; exact limb_lt64 x k
  · rw [List.getD_eq_getElem?_getD, List.getElem?_eq_none (by rw [limbs_len]; exact h)]; exact Nat.zero_lt_succ _
theorem wordA_list (x : Nat) : wordA x = #[.int .u64 (limb x 0 : Int), .int .u64 (limb x 1 : Int), .int .u64 (limb x 2 : Int), .int .u64 (limb x 3 : Int)] := rfl
theorem exact_word (x : Nat) : Exact (wV x) (.agg (wordA x)) := by
  rw [wordA_list]
  refine ⟨fun w g => .a rfl (fun u hu => ?_) (fun j u y hj hy => ?_), fun w g y h => ?_⟩
  · obtain ⟨a, _, rfl⟩ := List.mem_map.1 hu; rfl
  · match j with
    | 0 => simp [limbs] at hj hy; subst hj; subst hy; exact .k _
    | 1 => simp [limbs] at hj hy; subst hj; subst hy; exact .k _
    | 2 => simp [limbs] at hj hy; subst hj; subst hy; exact .k _
    | 3 => simp [limbs] at hj hy; subst hj; subst hy; exact .k _
    | j + 4 => simp [limbs] at hj
  · cases h with
    | @a _ _ vs hl h1 hc =>
      have hs : vs.size = 4 := by simpa [limbs] using hl.symm
      congr 1
      apply Array.ext
      · simpa using hs
      · intro i h1 h2
        have hv : vs[i]? = some vs[i] := Array.getElem?_eq_getElem h1
        match i with
        | 0 => exact rep_k (hc 0 _ _ rfl hv)
        | 1 => exact rep_k (hc 1 _ _ rfl hv)
        | 2 => exact rep_k (hc 2 _ _ rfl hv)
        | 3 => exact rep_k (hc 3 _ _ rfl hv)
        | i + 4 => omega
theorem limbs_eq {x y : Nat} (h : x % M256 = y % M256) : limbs x = limbs y := by
  have := wordA_eq h
  rw [wordA_list, wordA_list] at this
  simp only [Array.mk.injEq, List.cons.injEq, Value.int.injEq, true_and, and_true] at this
  obtain ⟨h1, h2, h3, h4⟩ := this
  simp only [limbs, List.cons.injEq, and_true]
  exact ⟨by omega, by omega, by omega, by omega⟩
theorem limbs_inj {x y : Nat} (h : limbs x = limbs y) : x % M256 = y % M256 := by
  refine wordA_inj ?_
  simp only [limbs, List.cons.injEq, and_true] at h
  obtain ⟨h1, h2, h3, h4⟩ := h
  rw [wordA_list, wordA_list, h1, h2, h3, h4]
theorem limbs_iff {x y : Nat} : limbs x = limbs y ↔ x % M256 = y % M256 := ⟨limbs_inj, limbs_eq⟩
theorem limbs_small {n : Nat} (h : n < m64) : limbs n = [n, 0, 0, 0] := by
  have h0 : limb n 0 = n := by unfold limb; rw [Nat.pow_zero, Nat.div_one, Nat.mod_eq_of_lt h]
  have hi : ∀ i, 1 ≤ i → limb n i = 0 := fun i hi => by
    have : m64 ≤ m64 ^ i := by
      have := Nat.pow_le_pow_right (show 0 < m64 from m64_pos) hi
      rwa [Nat.pow_one] at this
    unfold limb; rw [Nat.div_eq_of_lt (by omega), Nat.zero_mod]
  unfold limbs
  rw [h0, hi 1 (by decide), hi 2 (by decide), hi 3 (by decide)]
/-- The number of four parts. -/
def numOf (l : List Nat) : Nat := val (fun k => l.getD k 0) 4
theorem limbs_num {l : List Nat} (h : l.length = 4) (hl : ∀ a ∈ l, a < m64) : limbs (numOf l) = l := by
  match l, h with
  | [a, b, c, d], _ =>
    have hk : ∀ k, k < 4 → (fun k => [a, b, c, d].getD k 0) k < m64 := fun k hk => by
      match k, hk with
      | 0, _ => exact hl a (by simp)
      | 1, _ => exact hl b (by simp)
      | 2, _ => exact hl c (by simp)
      | 3, _ => exact hl d (by simp)
    unfold limbs numOf
    rw [limb_val hk (by decide : 0 < 4), limb_val hk (by decide : 1 < 4), limb_val hk (by decide : 2 < 4), limb_val hk (by decide : 3 < 4)]
    rfl
theorem numOf_lt {l : List Nat} (h : l.length = 4) (hl : ∀ a ∈ l, a < m64) : numOf l < M256 := by
  match l, h with
  | [a, b, c, d], _ =>
    refine val_lt fun k hk => ?_
    match k, hk with
    | 0, _ => exact hl a (by simp)
    | 1, _ => exact hl b (by simp)
    | 2, _ => exact hl c (by simp)
    | 3, _ => exact hl d (by simp)
/-! ### Bytes -/
def beB (x : Nat) : Nat → List UInt8
  | 0 => []
  | n + 1 => UInt8.ofNat (x / 256 ^ n % 256) :: beB x n
theorem beB_len (x n : Nat) : (beB x n).length = n := by induction n <;> simp [beB, *]
theorem beB_num (x : Nat) : ∀ n, Ps.beN (beB x n) = x % 256 ^ n
  | 0 => by simp [beB, Ps.beN, Ps.nat8, Ps.pos, Nat.mod_one]
  | n + 1 => by
    have ih := beB_num x n
    have e : Ps.beN (beB x (n + 1)) = x / 256 ^ n % 256 * 256 ^ n + Ps.beN (beB x n) := by
      simp only [beB, Ps.beN, Ps.nat8, List.map_cons, Ps.pos, List.length_map, beB_len, UInt8.toNat_ofNat']
      simp
    rw [e, ih, Nat.pow_succ, Nat.mod_mul, Nat.mul_comm]
    omega
theorem m256_bytes : M256 = 256 ^ 32 := by unfold M256 m64; decide
def wordB (x : Nat) : List UInt8 := beB x 32
theorem wordB_len (x : Nat) : (wordB x).length = 32 := beB_len x 32
theorem wordB_num (x : Nat) : Ps.beN (wordB x) = x % M256 := by rw [m256_bytes]; exact beB_num x 32
def bytesR (x i : Nat) : List UInt8 := (List.range 32).map fun j => if j < i then UInt8.ofNat (x / 256 ^ (31 - j) % 256) else 0
theorem bytesR_len (x i : Nat) : (bytesR x i).length = 32 := by simp [bytesR]
theorem bytesR_full (x : Nat) : bytesR x 32 = wordB x := by
  have e : ∀ n, beB x n = (List.range n).map fun j => UInt8.ofNat (x / 256 ^ (n - 1 - j) % 256) := by
    intro n
    induction n with
    | zero => rfl
    | succ n ih =>
      rw [beB, ih, List.range_succ_eq_map, List.map_cons, List.map_map]
      congr 1
      refine List.map_congr_left fun j hj => ?_
      have := List.mem_range.1 hj
      simp only [Function.comp]
      rw [show n + 1 - 1 - (j + 1) = n - 1 - j by omega]
  unfold wordB bytesR
  rw [e]
  refine List.map_congr_left fun j hj => ?_
  rw [if_pos (List.mem_range.1 hj)]
theorem bytesR_set (x i : Nat) (hi : i < 32) {b : Nat} (hb : b % 256 = x / 256 ^ (31 - i) % 256) : (bytesR x i).set i (UInt8.ofNat b) = bytesR x (i + 1) := by
  apply List.ext_getElem
  · simp [bytesR]
  · intro j h1 h2
    rw [List.getElem_set]
    simp only [bytesR, List.getElem_map, List.getElem_range]
    by_cases h : i = j
    · subst h
      rw [if_pos rfl, if_pos (by omega)]
      apply UInt8.toNat_inj.1
      rw [UInt8.toNat_ofNat', UInt8.toNat_ofNat']
      omega
    · rw [if_neg h]
      by_cases h3 : j < i
      · rw [if_pos h3, if_pos (by omega)]
      · rw [if_neg h3, if_neg (by omega)]
theorem limb_byte (x k r : Nat) (hr : r < 8) : limb x k / 2 ^ (r * 8) % 256 = x / 256 ^ (8 * k + r) % 256 := by
  unfold limb
  have e1 : (256 : Nat) ^ (8 * k + r) = m64 ^ k * 2 ^ (r * 8) := by
    rw [Nat.pow_add, Nat.pow_mul]
    have h1 : (256 : Nat) ^ 8 = m64 := by unfold m64; decide
    have h2 : (256 : Nat) ^ r = 2 ^ (r * 8) := by rw [Nat.mul_comm, Nat.pow_mul]
    rw [h1, h2]
  rw [e1, ← Nat.div_div_eq_div_mul]
  generalize x / m64 ^ k = y
  have h3 : m64 = 2 ^ (r * 8) * 2 ^ ((8 - r) * 8) := by rw [← Nat.pow_add, show r * 8 + (8 - r) * 8 = 64 from by omega]; unfold m64; decide
  have h4 : (256 : Nat) ∣ 2 ^ ((8 - r) * 8) := by
    refine ⟨2 ^ ((8 - r) * 8 - 8), ?_⟩
    have : (8 - r) * 8 = 8 + ((8 - r) * 8 - 8) := by omega
    rw [this, Nat.pow_add]; simp
  rw [h3, Nat.mod_mul_right_div_self]
  exact Nat.mod_mod_of_dvd _ h4
theorem pow256 (i : Nat) : (256 : Nat) ^ i = m64 ^ (i / 8) * 2 ^ (i % 8 * 8) := by
  have h1 : (256 : Nat) ^ 8 = m64 := by unfold m64; decide
  have h2 : (256 : Nat) ^ (i % 8) = 2 ^ (i % 8 * 8) := by rw [Nat.mul_comm, Nat.pow_mul]
  rw [← h1, ← h2, ← Nat.pow_mul, ← Nat.pow_add, Nat.div_add_mod]
theorem limb_set {V b i : Nat} (hV : V < 256 ^ i) (hb : b < 256) (k : Nat) : limb (V + b * 256 ^ i) k = if k = i / 8 then limb V k ||| (b * 2 ^ (i % 8 * 8) % 2 ^ 64) else limb V k := by
  have hp := pow256 i
  have hm : 2 ^ 64 = m64 := by unfold m64; decide
  have hr : i % 8 < 8 := Nat.mod_lt _ (by decide)
  have h64 : m64 = 2 ^ (i % 8 * 8) * 2 ^ (64 - i % 8 * 8) := by rw [← Nat.pow_add, ← hm, show i % 8 * 8 + (64 - i % 8 * 8) = 64 from by omega]
  have hpos : ∀ j, 0 < m64 ^ j := fun j => pow_pos' j
  have hle : b * 2 ^ (i % 8 * 8) + 2 ^ (i % 8 * 8) ≤ m64 := by
    have h1 : (2 : Nat) ^ 8 ≤ 2 ^ (64 - i % 8 * 8) := Nat.pow_le_pow_right (by decide) (by omega)
    have h2 : (b + 1) * 2 ^ (i % 8 * 8) ≤ 2 ^ (64 - i % 8 * 8) * 2 ^ (i % 8 * 8) := Nat.mul_le_mul_right _ (by omega)
    rw [Nat.mul_comm (2 ^ (64 - i % 8 * 8)), ← h64, Nat.add_mul, Nat.one_mul] at h2
    exact h2
  have hs0 : 0 < 2 ^ (i % 8 * 8) := Nat.two_pow_pos _
  rcases Nat.lt_trichotomy k (i / 8) with h | h | h
  · rw [if_neg (by omega)]
    obtain ⟨j, hj⟩ : ∃ j, i / 8 = k + 1 + j := ⟨i / 8 - k - 1, by omega⟩
    unfold limb
    rw [hp, hj, show b * (m64 ^ (k + 1 + j) * 2 ^ (i % 8 * 8)) = m64 ^ k * (m64 * (m64 ^ j * (b * 2 ^ (i % 8 * 8)))) from by rw [Nat.pow_add, Nat.pow_add, Nat.pow_one]; ac_rfl, Nat.add_mul_div_left _ _ (hpos k), Nat.add_mul_mod_self_left]
  · rw [if_pos h]
    subst h
    have hlt : V / m64 ^ (i / 8) < 2 ^ (i % 8 * 8) := Nat.div_lt_of_lt_mul (by rw [← hp]; exact hV)
    unfold limb
    rw [hp, show b * (m64 ^ (i / 8) * 2 ^ (i % 8 * 8)) = m64 ^ (i / 8) * (b * 2 ^ (i % 8 * 8)) from by ac_rfl, Nat.add_mul_div_left _ _ (hpos _)]
    rw [Nat.mod_eq_of_lt (show V / m64 ^ (i / 8) < m64 by omega), hm, Nat.mod_eq_of_lt (show b * 2 ^ (i % 8 * 8) < m64 by omega), Nat.mod_eq_of_lt (by omega)]
    rw [Nat.or_comm, Nat.mul_comm b, ← Nat.two_pow_add_eq_or_of_lt hlt, Nat.add_comm]
  · rw [if_neg (by omega)]
    have h1 : (256 : Nat) ^ (i + 1) ≤ m64 ^ k := by
      have : (256 : Nat) ^ (i + 1) ≤ 256 ^ (8 * k) := Nat.pow_le_pow_right (by decide) (by omega)
      rw [Nat.pow_mul] at this
      have e : (256 : Nat) ^ 8 = m64 := by unfold m64; decide
      rwa [e] at this
    have h2 : V + b * 256 ^ i < 256 ^ (i + 1) := by
      have h2 := Nat.mul_le_mul_right (256 ^ i) (Nat.succ_le_of_lt hb)
      rw [Nat.pow_succ, Nat.mul_comm (256 ^ i)]
      rw [Nat.succ_mul] at h2
      omega
    unfold limb
    rw [Nat.div_eq_of_lt (by omega), Nat.div_eq_of_lt (by omega)]
/-- The number of the last i bytes. -/
def tailN (l : List UInt8) (i : Nat) : Nat := Ps.beN (l.drop (l.length - i))
theorem tailN_zero (l : List UInt8) : tailN l 0 = 0 := by unfold tailN; rw [Nat.sub_zero, List.drop_length]; rfl
theorem tailN_all (l : List UInt8) : tailN l l.length = Ps.beN l := by unfold tailN; rw [Nat.sub_self, List.drop_zero]
theorem tailN_lt (l : List UInt8) {i : Nat} (h : i ≤ l.length) : tailN l i < 256 ^ i := by
  have := Ps.beN_lt (l.drop (l.length - i))
  rwa [List.length_drop, show l.length - (l.length - i) = i by omega] at this
theorem tailN_succ (l : List UInt8) {i : Nat} (h : i < l.length) : tailN l (i + 1) = tailN l i + (l.getD (l.length - 1 - i) default).toNat * 256 ^ i := by
  unfold tailN
  rw [show l.length - (i + 1) = l.length - 1 - i by omega, List.drop_eq_getElem_cons (by omega)]
  have e : l.length - 1 - i + 1 = l.length - i := by omega
  rw [e]
  have e2 : ∀ (a : UInt8) (r : List UInt8), Ps.beN (a :: r) = a.toNat * 256 ^ r.length + Ps.beN r := fun a r => by simp [Ps.beN, Ps.nat8, Ps.pos]
  rw [e2, List.length_drop, show l.length - (l.length - i) = i by omega, Nat.add_comm]
  simp [List.getD_eq_getElem?_getD, List.getElem?_eq_getElem (show l.length - 1 - i < l.length by omega)]
attribute [irreducible] bytesR limbs tailN wordB
end Lf
end Go.Proofs.Ytclkpjefklahfaa

/- Contracts of package word, lifted. -/
namespace Go.Proofs.Ytclkpjefklahfaa
open Go.RowKit Rg Wm Ar
namespace Lf
namespace Wo
theorem IntW (n : Nat) (h : n < m64) : LF Try.prog 14 [uK n] (fun _ => wV n) none := .of_calls (by kernel_rfl) rfl (ex1 (exact_k _)) (exact_word _) fun w => Wd.IntW n h w
theorem Cmp (x y : Nat) : LF Try.prog 13 [wV x, wV y] (fun _ => .k (.int .i64 (Wd.cmp x y))) none := .of_calls (by kernel_rfl) rfl (ex2 (exact_word x) (exact_word y)) (exact_k _) fun w => Wd.Cmp x y w
theorem Add (x y : Nat) : LF Try.prog 16 [wV x, wV y] (fun _ => wV (x + y)) none := .of_calls (by kernel_rfl) rfl (ex2 (exact_word x) (exact_word y)) (exact_word _) fun w => Wd.Add x y w
theorem Mul (x y : Nat) : LF Try.prog 17 [wV x, wV y] (fun _ => wV (x * y)) none := .of_calls (by kernel_rfl) rfl (ex2 (exact_word x) (exact_word y)) (exact_word _) fun w => Wd.Mul x y w
end Wo
theorem byte_at (x : Nat) {i : Nat} (h : i < 32) : (limbs x).getD ((31 - i) / 8) default / 2 ^ ((31 - i) % 8 * 8) % 256 = x / 256 ^ (31 - i) % 256 := by
  rw [limbs_get x (by omega), limb_byte _ _ _ (Nat.mod_lt _ (by decide))]
  congr 3
  omega
theorem set_more {i n V b : Nat} (_h : i < n) (hn : i < 32) (hV : V < 256 ^ i) (hb : b < 256) : (limbs V).set (i / 8) ((limbs V).getD (i / 8) default ||| b * 2 ^ (i % 8 * 8) % 2 ^ 64) = limbs (V + b * 256 ^ i) := by
  rw [limbs_get V (by omega)]
  have h : ∀ k, limb (V + b * 256 ^ i) k = _ := limb_set hV hb
  have hq : i / 8 = 0 ∨ i / 8 = 1 ∨ i / 8 = 2 ∨ i / 8 = 3 := by omega
  unfold limbs
  simp only [h]
  rcases hq with e | e | e | e <;> rw [e] <;> rfl
namespace Wo
set_option maxHeartbeats 1000000 in
theorem Bytes (x : Nat) : LF Try.prog 18 [wV x] (fun _ => .a ((wordB x).map bK)) none := by
  have hl := limbs_len x
  refine LFx.mk' tt Try.func18 rfl rfl rfl (by kernel_rfl) rfl rfl fun F => ?_
  refine wk ?_ trueW trueW
  refine LC.loop2 (fun i L => [(1, .p 1 0), (2, .p 2 0), (3, .p 3 0), (6, .k (.int .i64 ((i : Nat) : Int)))]) (fun i L => [(1, .b ((limbs x).map uK)), (2, .b ((List.replicate 32 0).map bK)), (3, .b (L.map bK))]) (fun i L => i ≤ 32 ∧ L = bytesR x i) ((32 - ·)) (0) ((List.replicate 32 0)) ⟨by omega, by unfold bytesR; rfl⟩ ⟨rfl, rfl, rfl, rfl, trivial⟩ ⟨rfl, rfl, rfl, trivial⟩ rfl (by first | exact rfl | (simp only [V.cells, refsE, refsM, V.refs, V.refs.go, V.pure, V.pure.go, pure_mapq, pure_mapb, pure_mapu, refs_mapq, refs_mapb, refs_mapu, refs_append, Bool.and_true, Bool.true_and, Bool.and_self] <;> exact rfl) | (simp only [V.cells, refsE, refsM, V.refs, V.refs.go, V.pure, V.pure.go, pure_mapq, pure_mapb, pure_mapu, refs_mapq, refs_mapb, refs_mapu, refs_append, Bool.and_true, Bool.true_and, Bool.and_self, hrf] <;> exact rfl) | (simp only [V.cells, refsE, refsM, V.refs, V.refs.go, V.pure, V.pure.go, pure_mapq, pure_mapb, pure_mapu, refs_mapq, refs_mapb, refs_mapu, refs_append, Bool.and_true, Bool.true_and, Bool.and_self, hrf, hrg] <;> exact rfl) | exact lz) (by first | exact rfl | (simp only [V.cells, refsE, refsM, V.refs, V.refs.go, V.pure, V.pure.go, pure_mapq, pure_mapb, pure_mapu, refs_mapq, refs_mapb, refs_mapu, refs_append, Bool.and_true, Bool.true_and, Bool.and_self] <;> exact rfl) | (simp only [V.cells, refsE, refsM, V.refs, V.refs.go, V.pure, V.pure.go, pure_mapq, pure_mapb, pure_mapu, refs_mapq, refs_mapb, refs_mapu, refs_append, Bool.and_true, Bool.true_and, Bool.and_self, hrf] <;> exact rfl) | (simp only [V.cells, refsE, refsM, V.refs, V.refs.go, V.pure, V.pure.go, pure_mapq, pure_mapb, pure_mapu, refs_mapq, refs_mapb, refs_mapu, refs_append, Bool.and_true, Bool.true_and, Bool.and_self, hrf, hrg] <;> exact rfl) | exact lz) ?_
  rintro i L ⟨hi, hL⟩
  have hb := bytesR_len x i
  rw [← hL] at hb
  rcases Nat.lt_or_ge i 32 with h | h
  · have hok : i + 1 ≤ 32 ∧ L.set i (UInt8.ofNat ((limbs x).getD ((31 - i) / 8) default / 2 ^ ((31 - i) % 8 * 8))) = bytesR x (i + 1) := ⟨h, by rw [hL]; exact bytesR_set x i h (byte_at x h)⟩
    clear hL
    exact wk trueW trueW trueW
  · obtain rfl : i = 32 := by omega
    have hv1 : V.a (L.map bK) = V.a ((wordB x).map bK) := by rw [hL, bytesR_full]
    clear hL
    exact wk trueW trueW trueW
end Wo
end Lf
end Go.Proofs.Ytclkpjefklahfaa

/- Package hex: the plain law of notations by sixteens. -/
namespace Go.Proofs.Ytclkpjefklahfaa
open Wm Ar
set_option maxRecDepth 20000
namespace Hx
def digL : List UInt8 := [48, 49, 50, 51, 52, 53, 54, 55, 56, 57, 97, 98, 99, 100, 101, 102]
def dig (a : UInt8) : UInt8 := digL.getD a.toNat default
def ud (c : Nat) : UInt8 := if 48 ≤ c ∧ c ≤ 57 then UInt8.ofNat (c - 48) else if 97 ≤ c ∧ c ≤ 102 then UInt8.ofNat (c - 87) else 16
theorem ud_dig0 : ∀ n, n < 16 → ud (dig (UInt8.ofNat n)).toNat = UInt8.ofNat n := by decide
theorem dig_ud0 : ∀ c, c < 256 → (ud c).toNat ≤ 15 → dig (ud c) = UInt8.ofNat c := by decide
theorem of_toNat (a : UInt8) : UInt8.ofNat a.toNat = a := by simp
theorem ud_dig {a : UInt8} (h : a.toNat < 16) : ud (dig a).toNat = a := by have := ud_dig0 a.toNat h; rwa [of_toNat] at this
theorem dig_ud {c : UInt8} (h : (ud c.toNat).toNat ≤ 15) : dig (ud c.toNat) = c := by have := dig_ud0 c.toNat c.toNat_lt h; rwa [of_toNat] at this
theorem dig_lt0 : ∀ n, n < 16 → ∀ m, m < 16 → (dig (UInt8.ofNat n) < dig (UInt8.ofNat m) ↔ n < m) := by decide
theorem dig_lt {a b : UInt8} (ha : a.toNat < 16) (hb : b.toNat < 16) : dig a < dig b ↔ a.toNat < b.toNat := by
  have := dig_lt0 a.toNat ha b.toNat hb; rwa [of_toNat, of_toNat] at this
theorem dig_inj {a b : UInt8} (ha : a.toNat < 16) (hb : b.toNat < 16) (h : dig a = dig b) : a = b := by rw [← ud_dig ha, ← ud_dig hb, h]
def Small (l : List UInt8) : Prop := ∀ a ∈ l, a.toNat < 16
/-- The digits of bytes. -/
def hv : List UInt8 → List UInt8
  | [] => []
  | x :: l => UInt8.ofNat (x.toNat / 16) :: UInt8.ofNat (x.toNat % 16) :: hv l
def pairs : List UInt8 → List UInt8
  | a :: b :: l => UInt8.ofNat (a.toNat * 16 + b.toNat) :: pairs l
  | _ => []
theorem hv_len : ∀ l, (hv l).length = 2 * l.length
  | [] => rfl
  | x :: l => by simp only [hv, List.length_cons, hv_len l]; omega
theorem hv_small : ∀ l, Small (hv l)
  | [] => fun a h => by cases h
  | x :: l => fun a h => by
    have hx := x.toNat_lt
    simp only [hv, List.mem_cons] at h
    rcases h with rfl | rfl | h
    · rw [UInt8.toNat_ofNat']; omega
    · rw [UInt8.toNat_ofNat']; omega
    · exact hv_small l a h
theorem hv_app : ∀ a b, hv (a ++ b) = hv a ++ hv b
  | [], _ => rfl
  | x :: a, b => by simp only [List.cons_append, hv, hv_app a b]
theorem pairs_hv : ∀ l, pairs (hv l) = l
  | [] => rfl
  | x :: l => by
    have hx := x.toNat_lt
    simp only [hv, pairs, pairs_hv l]
    congr 1
    apply UInt8.toNat_inj.1
    simp only [UInt8.toNat_ofNat']
    omega
theorem hv_pairs : ∀ {l}, Small l → l.length % 2 = 0 → hv (pairs l) = l
  | [], _, _ => rfl
  | [_], _, h => by simp at h
  | a :: b :: l, hs, h => by
    have ha := hs a (by simp)
    have hb := hs b (by simp)
    have ih := hv_pairs (l := l) (fun c hc => hs c (by simp [hc])) (by simp only [List.length_cons] at h; omega)
    simp only [pairs, hv, ih]
    congr 1
    · apply UInt8.toNat_inj.1
      simp only [UInt8.toNat_ofNat']
      omega
    · congr 1
      apply UInt8.toNat_inj.1
      simp only [UInt8.toNat_ofNat']
      omega
theorem pairs_len : ∀ l, (pairs l).length = l.length / 2
  | [] => rfl
  | [_] => by simp [pairs]
  | a :: b :: l => by simp only [pairs, List.length_cons, pairs_len l]; omega
/-- What is behind 0x. -/
def digs : List UInt8 → Option (List UInt8)
  | [] => some []
  | c :: l => if (ud c.toNat).toNat ≤ 15 then (digs l).map (ud c.toNat :: ·) else none
def halves : List UInt8 → Option (List UInt8)
  | a :: b :: l => if a = 48 ∧ b = 120 then digs l else none
  | _ => none
def txt (d : List UInt8) : List UInt8 := 48 :: 120 :: d.map dig
def print (l : List UInt8) : List UInt8 := txt (hv l)
theorem digs_of : ∀ {d}, Small d → digs (d.map dig) = some d
  | [], _ => rfl
  | a :: d, h => by
    have ha := h a (by simp)
    simp only [List.map_cons, digs, ud_dig ha, digs_of (d := d) fun c hc => h c (by simp [hc])]
    rw [if_pos (by omega)]; rfl
theorem digs_spec : ∀ {l d}, digs l = some d → Small d ∧ l = d.map dig
  | [], d, h => by
    cases h
    exact ⟨fun _ ha => (List.not_mem_nil ha).elim, rfl⟩
  | c :: l, d, h => by
    simp only [digs] at h
    split at h
    · rename_i hc
      obtain ⟨e, he, rfl⟩ := Option.map_eq_some_iff.1 h
      obtain ⟨h1, h2⟩ := digs_spec he
      refine ⟨fun a ha => ?_, ?_⟩
      · rcases List.mem_cons.1 ha with rfl | ha
        · omega
        · exact h1 a ha
      · rw [List.map_cons, dig_ud hc, ← h2]
    · cases h
theorem halves_txt {d : List UInt8} (h : Small d) : halves (txt d) = some d := by
  show (if (48 : UInt8) = 48 ∧ (120 : UInt8) = 120 then digs (d.map dig) else none) = some d
  rw [if_pos (And.intro rfl rfl), digs_of h]
theorem halves_spec {s d : List UInt8} (h : halves s = some d) : Small d ∧ s = txt d := by
  match s, h with
  | a :: b :: l, h =>
    simp only [halves] at h
    split at h
    · rename_i hab
      obtain ⟨rfl, rfl⟩ := hab
      obtain ⟨h1, h2⟩ := digs_spec h
      exact ⟨h1, by rw [txt, ← h2]⟩
    · cases h
def parse (s : List UInt8) : Option (List UInt8) := match halves s with
  | some d => if d.length % 2 = 1 then none else some (pairs d)
  | none => none
theorem parse_print (l : List UInt8) : parse (print l) = some l := by
  unfold parse print
  rw [halves_txt (hv_small l)]
  simp only
  rw [if_neg (by rw [hv_len]; omega), pairs_hv]
theorem print_parse {s l : List UInt8} (h : parse s = some l) : print l = s := by
  unfold parse at h
  split at h
  · rename_i d hd
    obtain ⟨h1, rfl⟩ := halves_spec hd
    split at h
    · cases h
    · cases h
      rw [print, hv_pairs h1 (by omega)]
  · cases h
theorem print_len (l : List UInt8) : (print l).length = 2 + 2 * l.length := by simp only [print, txt, List.length_cons, List.length_map, hv_len]; omega
theorem print_app (a b : List UInt8) : print (a ++ b) = print a ++ (print b).drop 2 := by simp [print, txt, hv_app]
/-! ### Numbers -/
def nat (d : List UInt8) : List Nat := Ps.nat8 d
def num (d : List UInt8) : Nat := Ps.pos 16 (nat d)
/-- At least one digit, and no nought ahead of others. -/
def Can (d : List UInt8) : Prop := d ≠ [] ∧ (1 < d.length → d.head? ≠ some 0)
def nz : List UInt8 → List UInt8
  | a :: b :: l => if a = 0 then nz (b :: l) else a :: b :: l
  | l => l
theorem nat_len (d : List UInt8) : (nat d).length = d.length := by simp [nat, Ps.nat8]
theorem nat_small {d : List UInt8} (h : Small d) : ∀ a ∈ nat d, a < 16 := fun a ha => by
  obtain ⟨x, hx, rfl⟩ := List.mem_map.1 ha
  exact h x hx
theorem num_cons (a : UInt8) (d : List UInt8) : num (a :: d) = a.toNat * 16 ^ d.length + num d := by simp [num, nat, Ps.nat8, Ps.pos]
theorem num_one (d : List UInt8) (a : UInt8) : num (d ++ [a]) = num d * 16 + a.toNat := by
  simp only [num, nat, Ps.nat8, List.map_append, Ps.pos_append, List.map_cons, List.map_nil, List.length_cons, List.length_nil, Ps.pos]
  omega
theorem nz_num : ∀ d, num (nz d) = num d
  | [] => rfl
  | [_] => rfl
  | a :: b :: l => by
    simp only [nz]
    split
    · rename_i h; subst h; rw [nz_num (b :: l), num_cons 0 (b :: l)]; simp
    · rfl
theorem nz_len : ∀ d, (nz d).length ≤ d.length
  | [] => Nat.le_refl _
  | [_] => Nat.le_refl _
  | a :: b :: l => by
    simp only [nz]
    split
    · have := nz_len (b :: l); simp only [List.length_cons] at this ⊢; omega
    · exact Nat.le_refl _
theorem nz_can : ∀ {d}, d ≠ [] → Can (nz d)
  | [], h => absurd rfl h
  | [a], _ => ⟨by simp [nz], fun h => by simp [nz] at h⟩
  | a :: b :: l, _ => by
    simp only [nz]
    split
    · exact nz_can (by simp)
    · rename_i h; exact ⟨by simp, fun _ e => by simp at e; exact h e⟩
theorem nz_small : ∀ {d}, Small d → Small (nz d)
  | [], h => h
  | [_], h => h
  | a :: b :: l, h => by
    simp only [nz]
    split
    · exact nz_small fun c hc => h c (by simp only [List.mem_cons] at hc ⊢; exact .inr hc)
    · exact h
theorem can_nl {d : List UInt8} (h : Can d) (h1 : 1 < d.length) : Ps.NL (nat d) := (Ps.nl_iff d).2 (h.2 h1)
theorem can_order {a b : List UInt8} (ha : Can a) (hb : Can b) (sa : Small a) (sb : Small b) : num a < num b ↔ a.length < b.length ∨ (a.length = b.length ∧ Ps.lexN (nat a) (nat b) = true) := by
  have pa := List.length_pos_iff.2 ha.1
  have pb := List.length_pos_iff.2 hb.1
  have la := nat_len a
  have lb := nat_len b
  unfold num
  rcases Nat.lt_trichotomy a.length b.length with h | h | h
  · have := Ps.pos_len (B := 16) (l := nat a) (m := nat b) (by decide) (by omega) (nat_small sa) (can_nl hb (by omega))
    exact ⟨fun _ => .inl h, fun _ => this⟩
  · have := Ps.pos_lex (B := 16) (l := nat a) (m := nat b) (by omega) (nat_small sa) (nat_small sb)
    rw [this]
    exact ⟨fun k => .inr ⟨h, k⟩, fun k => by rcases k with k | k; omega; exact k.2⟩
  · have := Ps.pos_len (B := 16) (l := nat b) (m := nat a) (by decide) (by omega) (nat_small sb) (can_nl ha (by omega))
    exact ⟨fun k => by omega, fun k => by omega⟩
theorem can_inj {a b : List UInt8} (ha : Can a) (hb : Can b) (sa : Small a) (sb : Small b) (h : num a = num b) : a = b := by
  have e1 := can_order ha hb sa sb
  have e2 := can_order hb ha sb sa
  have n1 : ¬ (a.length < b.length ∨ (a.length = b.length ∧ Ps.lexN (nat a) (nat b) = true)) := fun h' => by have := e1.2 h'; omega
  have n2 : ¬ (b.length < a.length ∨ (b.length = a.length ∧ Ps.lexN (nat b) (nat a) = true)) := fun h' => by have := e2.2 h'; omega
  have hl : a.length = b.length := by omega
  refine Ps.nat8_inj (Ps.lexN_eq (l := nat a) (m := nat b) (by rw [nat_len, nat_len]; exact hl) ?_ ?_)
  · rw [← Bool.not_eq_true]; exact fun h' => n1 (.inr ⟨hl, h'⟩)
  · rw [← Bool.not_eq_true]; exact fun h' => n2 (.inr ⟨hl.symm, h'⟩)
theorem num_hv : ∀ l, num (hv l) = Ps.beN l
  | [] => rfl
  | x :: l => by
    have hx := x.toNat_lt
    have e : Ps.beN (x :: l) = x.toNat * 256 ^ l.length + Ps.beN l := by simp [Ps.beN, Ps.nat8, Ps.pos]
    simp only [hv]
    rw [num_cons, num_cons, num_hv l, e, List.length_cons, hv_len, UInt8.toNat_ofNat', UInt8.toNat_ofNat', Nat.mod_eq_of_lt (show x.toNat / 16 < 2 ^ 8 by omega), Nat.mod_eq_of_lt (show x.toNat % 16 < 2 ^ 8 by omega),
      Nat.pow_succ, Nat.pow_mul, show (16 : Nat) ^ 2 = 256 from rfl]
    generalize 256 ^ l.length = p
    have := Nat.div_add_mod x.toNat 16
    have h2 : x.toNat * p = (16 * (x.toNat / 16) + x.toNat % 16) * p := by rw [this]
    rw [h2, Nat.add_mul, ← Nat.add_assoc, Nat.mul_comm p 16, ← Nat.mul_assoc, Nat.mul_comm (x.toNat / 16) 16]
/-- The digits of a number's notation. -/
def numD (x : Nat) : List UInt8 := nz (hv (Lf.wordB x))
theorem numD_num (x : Nat) : num (numD x) = x % M256 := by rw [numD, nz_num, num_hv, Lf.wordB_num]
theorem numD_can (x : Nat) : Can (numD x) := nz_can fun e => by
  have := hv_len (Lf.wordB x)
  rw [e, Lf.wordB_len] at this
  simp at this
theorem numD_small (x : Nat) : Small (numD x) := nz_small (hv_small _)
theorem numD_len (x : Nat) : (numD x).length ≤ 64 := by
  have h1 := nz_len (hv (Lf.wordB x))
  rw [hv_len, Lf.wordB_len] at h1
  exact h1
def parseD (s : List UInt8) : Option (List UInt8) := match halves s with
  | some d => if d.length = 0 ∨ 64 < d.length ∨ (1 < d.length ∧ d.head? = some 0) then none else some d
  | none => none
theorem parseD_num (x : Nat) : parseD (txt (numD x)) = some (numD x) := by
  unfold parseD
  rw [halves_txt (numD_small x)]
  simp only
  rw [if_neg]
  intro h
  have := numD_can x
  have h0 := List.length_pos_iff.2 this.1
  have h1 := numD_len x
  rcases h with h | h | h
  · omega
  · omega
  · exact this.2 h.1 h.2
theorem num_lt {d : List UInt8} (hs : Small d) (hl : d.length ≤ 64) : num d < M256 := by
  have h1 := Ps.pos_lt (nat_small hs)
  have h2 : 16 ^ (nat d).length ≤ 16 ^ 64 := Nat.pow_le_pow_right (by decide) (by rw [nat_len]; exact hl)
  have h3 : (16 : Nat) ^ 64 = M256 := by rw [Lf.m256_bytes]
  unfold num
  omega
theorem num_parseD {s d : List UInt8} (h : parseD s = some d) : num d < M256 ∧ txt (numD (num d)) = s := by
  unfold parseD at h
  split at h
  · rename_i e he
    obtain ⟨h1, rfl⟩ := halves_spec he
    split at h
    · cases h
    · rename_i hn
      cases h
      have hlt := num_lt h1 (by omega)
      refine ⟨hlt, ?_⟩
      congr 1
      refine can_inj (numD_can _) ⟨fun e => hn (.inl (by rw [e]; rfl)), fun h2 e => hn (.inr (.inr ⟨h2, e⟩))⟩ (numD_small _) h1 ?_
      rw [numD_num, Nat.mod_eq_of_lt hlt]
  · cases h
theorem bytesLess_dig : ∀ {a b : List UInt8}, Small a → Small b → Op.bytesLess (a.map dig) (b.map dig) = Ps.lexN (nat a) (nat b)
  | [], [], _, _ => by simp [Op.bytesLess, Ps.lexN, nat, Ps.nat8]
  | [], _ :: _, _, _ => by simp [Op.bytesLess, Ps.lexN, nat, Ps.nat8]
  | _ :: _, [], _, _ => by simp [Op.bytesLess, Ps.lexN, nat, Ps.nat8]
  | x :: a, y :: b, ha, hb => by
    have hx := ha x (by simp)
    have hy := hb y (by simp)
    have ih := bytesLess_dig (a := a) (b := b) (fun c hc => ha c (by simp [hc])) (fun c hc => hb c (by simp [hc]))
    have e : (dig x = dig y) ↔ x = y := ⟨dig_inj hx hy, fun h => by rw [h]⟩
    rw [List.map_cons, List.map_cons, Op.bytesLess, ih]
    simp only [nat, Ps.nat8, List.map_cons, Ps.lexN]
    rw [Bool.eq_iff_iff]
    simp only [Bool.or_eq_true, Bool.and_eq_true, decide_eq_true_eq, beq_iff_eq, dig_lt hx hy, e, UInt8.toNat_inj]
theorem bytesLess_txt {a b : List UInt8} (ha : Small a) (hb : Small b) : Op.bytesLess (txt a) (txt b) = Ps.lexN (nat a) (nat b) := by
  rw [← bytesLess_dig ha hb]
  simp [txt, Op.bytesLess]
theorem order (x y : Nat) : x % M256 < y % M256 ↔ (txt (numD x)).length < (txt (numD y)).length ∨ ((txt (numD x)).length = (txt (numD y)).length ∧ Op.bytesLess (txt (numD x)) (txt (numD y)) = true) := by
  rw [bytesLess_txt (numD_small x) (numD_small y)]
  simp only [txt, List.length_cons, List.length_map, Nat.add_lt_add_iff_right, Nat.add_right_cancel_iff]
  rw [← numD_num x, ← numD_num y]
  exact can_order (numD_can x) (numD_can y) (numD_small x) (numD_small y)
end Hx
end Go.Proofs.Ytclkpjefklahfaa

/- Package hex: digit, halves. -/
namespace Go.Proofs.Ytclkpjefklahfaa
open Go.RowKit Rg Wm Ar
set_option maxRecDepth 100000
namespace Lf
theorem wrap_i32 {z : Int} (h : -2147483648 ≤ z ∧ z ≤ 2147483647) : IntKind.i32.wrap z = z := by
  simp only [IntKind.wrap, IntKind.bits, IntKind.signed]
  have e1 : (2 : Int) ^ 32 = 4294967296 := by decide
  have e2 : (2 : Int) ^ (32 - 1) = 2147483648 := by decide
  simp only [e1, e2, Bool.true_and, decide_eq_true_eq]
  split <;> omega
namespace Hw
set_option maxHeartbeats 1000000 in
theorem digit (c : Nat) (hc : c ≤ 1114111) : LF Try.prog 19 [.k (.int .i32 (c : Int))] (fun _ => bK (Hx.ud c)) none := by
  by_cases h1 : 48 ≤ c ∧ c ≤ 57
  · have e : Hx.ud c = UInt8.ofNat (c - 48) := if_pos h1
    obtain ⟨h1a, h1b⟩ := h1
    have e1 : IntKind.i32.wrap ((c : Int) - 48) = ((c - 48 : Nat) : Int) := by rw [wrap_i32 (by omega)]; omega
    have e2 : IntKind.u8.wrap ((c - 48 : Nat) : Int) = ((Hx.ud c).toNat : Int) := by rw [wrap_u8 (by omega), e, UInt8.toNat_ofNat']; omega
    clear e
    generalize Hx.ud c = u at *
    refine LFx.mk' tt Try.func19 rfl rfl rfl (by kernel_rfl) rfl rfl fun F => ?_
    exact wk trueW trueW trueW
  · by_cases h2 : 97 ≤ c ∧ c ≤ 102
    · have e : Hx.ud c = UInt8.ofNat (c - 87) := (if_neg h1).trans (if_pos h2)
      obtain ⟨h2a, h2b⟩ := h2
      have e1 : IntKind.i32.wrap ((c : Int) - 97) = ((c - 97 : Nat) : Int) := by rw [wrap_i32 (by omega)]; omega
      have e2 : IntKind.u8.wrap (((c - 97 : Nat) : Int) + 10) = ((Hx.ud c).toNat : Int) := by rw [wrap_u8 (by omega), e, UInt8.toNat_ofNat']; omega
      clear e
      have h3 : ¬ c ≤ 57 := by omega
      generalize Hx.ud c = u at *
      refine LFx.mk' tt Try.func19 rfl rfl rfl (by kernel_rfl) rfl rfl fun F => ?_
      exact wk trueW trueW trueW
    · have e : Hx.ud c = 16 := (if_neg h1).trans (if_neg h2)
      rw [e]
      clear e
      by_cases h3 : 48 ≤ c
      · have h4 : ¬ c ≤ 57 := fun h => h1 ⟨h3, h⟩
        by_cases h5 : 97 ≤ c
        · have h6 : ¬ c ≤ 102 := fun h => h2 ⟨h5, h⟩
          clear h1 h2
          refine LFx.mk' tt Try.func19 rfl rfl rfl (by kernel_rfl) rfl rfl fun F => ?_
          exact wk trueW trueW trueW
        · clear h1 h2
          refine LFx.mk' tt Try.func19 rfl rfl rfl (by kernel_rfl) rfl rfl fun F => ?_
          exact wk trueW trueW trueW
      · have h5 : ¬ 97 ≤ c := by omega
        clear h1 h2
        refine LFx.mk' tt Try.func19 rfl rfl rfl (by kernel_rfl) rfl rfl fun F => ?_
        exact wk trueW trueW trueW
end Hw
end Lf
end Go.Proofs.Ytclkpjefklahfaa

/- Package hex: halves. -/
namespace Go.Proofs.Ytclkpjefklahfaa
open Go.RowKit Rg Wm Ar
set_option maxRecDepth 100000
namespace Lf
theorem sz_list (s : List UInt8) : (⟨s.toArray⟩ : ByteArray).size = s.length := by simp [ByteArray.size]
theorem get_list (s : List UInt8) (i : Nat) (h : i < s.length) : (⟨s.toArray⟩ : ByteArray)[i]'(by rw [sz_list]; exact h) = s.getD i default := by
  rw [List.getD_eq_getElem?_getD, List.getElem?_eq_getElem h]; rfl
theorem dec_at (s : List UInt8) (i : Nat) (h : i < s.length) (ha : (s.getD i default).toNat < 128) : ((Utf8.decode ⟨s.toArray⟩ i).1 : Int) = (((s.getD i default).toNat : Nat) : Int) ∧ (Utf8.decode ⟨s.toArray⟩ i).2 = 1 := by
  have := decode_ascii ⟨s.toArray⟩ i (by rw [sz_list]; exact h) (by rw [get_list s i h]; exact ha)
  rw [this, get_list s i h]
  exact ⟨rfl, rfl⟩
theorem dec_hi (s : List UInt8) (i : Nat) (h : i < s.length) (ha : 128 ≤ (s.getD i default).toNat) : 128 ≤ (Utf8.decode ⟨s.toArray⟩ i).1 ∧ 1 ≤ (Utf8.decode ⟨s.toArray⟩ i).2 ∧ (Utf8.decode ⟨s.toArray⟩ i).1 ≤ 1114111 := by
  have := decode_high ⟨s.toArray⟩ i (by rw [sz_list]; exact h) (by rw [get_list s i h]; exact ha)
  exact ⟨this.1, this.2, Lib.rune_le _ _⟩
theorem dig128 {a : UInt8} (h : a.toNat < 16) : (Hx.dig a).toNat < 128 := by
  have := (by decide : ∀ n, n < 16 → (Hx.dig (UInt8.ofNat n)).toNat < 128) a.toNat h
  rwa [Hx.of_toNat] at this
namespace Hw
set_option maxHeartbeats 1000000 in
theorem halves_ok (d : List UInt8) (hd : Hx.Small d) (hl : d.length < 1000000000) : LF Try.prog 15 [sK (Hx.txt d)] (fun _ => .t [.s none (d.map bK), .k (.bool true)]) none := by
  have hsl : (Hx.txt d).length = d.length + 2 := by simp [Hx.txt]
  have h0 : (Hx.txt d).getD 0 default = 48 := rfl
  have h1 : (Hx.txt d).getD 1 default = 120 := rfl
  have h2 : ∀ i, i < d.length → (Hx.txt d).getD (i + 2) default = Hx.dig (d.getD i default) := fun i hi => by
    simp [Hx.txt, List.getD_eq_getElem?_getD, List.getElem?_eq_getElem hi]
  have hsz := sz_list (Hx.txt d)
  have hdec := dec_at (Hx.txt d)
  generalize Hx.txt d = s at *
  refine LFx.mk' tt Try.func15 rfl rfl rfl (by kernel_rfl) rfl rfl fun F => ?_
  refine wk ?_ trueW trueW
  refine LC.nilrow 4 30 5 1 rfl rfl rfl ?_
  refine LC.loop2 (fun i S => [(0, sK s), (4, .s (some 30) (S.map bK)), (9, .p 9 0)]) (fun i S => [(9, .o (.stringIter ⟨s.toArray⟩ i)), (30, .r 5 1 S.length)]) (fun i S => i ≤ d.length + 2 ∧ S = d.take (i - 2)) ((d.length + 2 - ·)) (0) ([]) ⟨by omega, rfl⟩ ⟨rfl, rfl, rfl, trivial⟩ ⟨rfl, rfl, trivial⟩ rfl (by first | exact rfl | (simp only [V.cells, refsE, refsM, V.refs, V.refs.go, V.pure, V.pure.go, pure_mapq, pure_mapb, pure_mapu, refs_mapq, refs_mapb, refs_mapu, refs_append, Bool.and_true, Bool.true_and, Bool.and_self] <;> exact rfl) | (simp only [V.cells, refsE, refsM, V.refs, V.refs.go, V.pure, V.pure.go, pure_mapq, pure_mapb, pure_mapu, refs_mapq, refs_mapb, refs_mapu, refs_append, Bool.and_true, Bool.true_and, Bool.and_self, hrf] <;> exact rfl) | (simp only [V.cells, refsE, refsM, V.refs, V.refs.go, V.pure, V.pure.go, pure_mapq, pure_mapb, pure_mapu, refs_mapq, refs_mapb, refs_mapu, refs_append, Bool.and_true, Bool.true_and, Bool.and_self, hrf, hrg] <;> exact rfl) | exact lz) (by first | exact rfl | (simp only [V.cells, refsE, refsM, V.refs, V.refs.go, V.pure, V.pure.go, pure_mapq, pure_mapb, pure_mapu, refs_mapq, refs_mapb, refs_mapu, refs_append, Bool.and_true, Bool.true_and, Bool.and_self] <;> exact rfl) | (simp only [V.cells, refsE, refsM, V.refs, V.refs.go, V.pure, V.pure.go, pure_mapq, pure_mapb, pure_mapu, refs_mapq, refs_mapb, refs_mapu, refs_append, Bool.and_true, Bool.true_and, Bool.and_self, hrf] <;> exact rfl) | (simp only [V.cells, refsE, refsM, V.refs, V.refs.go, V.pure, V.pure.go, pure_mapq, pure_mapb, pure_mapu, refs_mapq, refs_mapb, refs_mapu, refs_append, Bool.and_true, Bool.true_and, Bool.and_self, hrf, hrg] <;> exact rfl) | exact lz) ?_
  rintro i S ⟨hi, hS⟩
  have hSl : S.length = min (i - 2) d.length := by rw [hS, List.length_take]
  rcases Nat.lt_or_ge i (d.length + 2) with h | h
  · have hp : i < (⟨s.toArray⟩ : ByteArray).size := by omega
    rcases Nat.lt_or_ge i 2 with h3 | h3
    · have hi2 : i = 0 ∨ i = 1 := by omega
      rcases hi2 with rfl | rfl
      · obtain ⟨hc, hw⟩ := hdec 0 (by omega) (by rw [h0]; decide)
        rw [h0] at hc
        have hok : 0 + 1 ≤ d.length + 2 ∧ S = d.take (0 + 1 - 2) := ⟨by omega, hS⟩
        clear hS hdec h2
        exact wk trueW trueW trueW
      · obtain ⟨hc, hw⟩ := hdec 1 (by omega) (by rw [h1]; decide)
        rw [h1] at hc
        have hok : 1 + 1 ≤ d.length + 2 ∧ S = d.take (1 + 1 - 2) := ⟨by omega, hS⟩
        clear hS hdec h2
        exact wk trueW trueW trueW
    · obtain ⟨j, rfl⟩ : ∃ j, i = j + 2 := ⟨i - 2, by omega⟩
      have hj : j < d.length := by omega
      have hsm : (d.getD j default).toNat < 16 := by
        rw [List.getD_eq_getElem?_getD, List.getElem?_eq_getElem hj]; exact hd _ (List.getElem_mem hj)
      obtain ⟨hc, hw⟩ := hdec (j + 2) (by omega) (by rw [h2 j hj]; exact dig128 hsm)
      rw [h2 j hj] at hc
      have c1 := digit (Hx.dig (d.getD j default)).toNat (by have := (Hx.dig (d.getD j default)).toNat_lt; omega)
      rw [Hx.ud_dig hsm] at c1
      have hok : j + 2 + 1 ≤ d.length + 2 ∧ S ++ [d.getD j default] = d.take (j + 2 + 1 - 2) := ⟨by omega, by
        rw [hS, show j + 2 - 2 = j by omega, show j + 2 + 1 - 2 = j + 1 by omega, List.take_add_one, List.getD_eq_getElem?_getD, List.getElem?_eq_getElem hj]; rfl⟩
      generalize (Hx.dig (d.getD j default)).toNat = c at *
      generalize d.getD j default = u at *
      clear hS hdec h2
      have hlt2 : ¬ ((j : Int) + 2 < 2) := by omega
      exact wk trueW trueW trueW
  · obtain rfl : i = d.length + 2 := by omega
    have hS2 : S = d := by rw [hS]; exact List.take_of_length_le (by omega)
    subst hS2
    have hp : (⟨s.toArray⟩ : ByteArray).size ≤ S.length + 2 := by omega
    clear hS hdec h2
    exact wk trueW trueW trueW
end Hw
end Lf
end Go.Proofs.Ytclkpjefklahfaa

/- Package hex: halves, where there are none. -/
namespace Go.Proofs.Ytclkpjefklahfaa
open Go.RowKit Rg Wm Ar
set_option maxRecDepth 100000
namespace Lf
theorem digs_all : ∀ (l : List UInt8), (∀ a ∈ l, (Hx.ud a.toNat).toNat ≤ 15) → ∃ d, Hx.digs l = some d
  | [], _ => ⟨[], rfl⟩
  | c :: l, h => by
    obtain ⟨d, hd⟩ := digs_all l fun a ha => h a (by simp [ha])
    exact ⟨_, by simp only [Hx.digs]; rw [if_pos (h c (by simp)), hd]; rfl⟩
theorem halves_all (s : List UInt8) (h : 2 ≤ s.length) (h0 : s.getD 0 default = 48) (h1 : s.getD 1 default = 120) (h2 : ∀ k, 2 ≤ k → k < s.length → (Hx.ud (s.getD k default).toNat).toNat ≤ 15) : ∃ d, Hx.halves s = some d := by
  match s, h with
  | a :: b :: l, _ =>
    have e0 : a = 48 := h0
    have e1 : b = 120 := h1
    subst e0; subst e1
    obtain ⟨d, hd⟩ := digs_all l fun a ha => by
      obtain ⟨k, hk, rfl⟩ := List.getElem_of_mem ha
      have := h2 (k + 2) (by omega) (by simpa using hk)
      simpa [List.getD_eq_getElem?_getD, List.getElem?_eq_getElem hk] using this
    exact ⟨d, (show (if (48 : UInt8) = 48 ∧ (120 : UInt8) = 120 then Hx.digs l else none) = some d by rw [if_pos (And.intro rfl rfl)]; exact hd)⟩
theorem ud_hi {c : Nat} (h : 128 ≤ c) : Hx.ud c = 16 := by unfold Hx.ud; rw [if_neg (by omega), if_neg (by omega)]
namespace Hw
set_option maxHeartbeats 2000000 in
theorem halves_no (s : List UInt8) (hn : Hx.halves s = none) (hl : s.length < 1000000000) : LF Try.prog 15 [sK s] (fun _ => .t [.s none [], .k (.bool false)]) none := by
  have hsz := sz_list s
  have hdec := dec_at s
  have hdhi := dec_hi s
  have key : 2 ≤ s.length → s.getD 0 default = 48 → s.getD 1 default = 120 → (∀ k, 2 ≤ k → k < s.length → (Hx.ud (s.getD k default).toNat).toNat ≤ 15) → False := fun a b c d => by
    obtain ⟨d, hd⟩ := halves_all s a b c d
    rw [hd] at hn; cases hn
  clear hn
  refine LFx.mk' tt Try.func15 rfl rfl rfl (by kernel_rfl) rfl rfl fun F => ?_
  refine wk ?_ trueW trueW
  refine LC.nilrow 4 30 5 1 rfl rfl rfl ?_
  refine LC.loop2 (fun i S => [(0, sK s), (4, .s (some 30) (S.map bK)), (9, .p 9 0)]) (fun i S => [(9, .o (.stringIter ⟨s.toArray⟩ i)), (30, .r 5 1 S.length)]) (fun i S => i ≤ s.length ∧ S.length = i - 2 ∧ (0 < i → s.getD 0 default = 48) ∧ (1 < i → s.getD 1 default = 120) ∧ (∀ k, 2 ≤ k → k < i → (Hx.ud (s.getD k default).toNat).toNat ≤ 15)) ((s.length - ·)) (0) ([]) ⟨by omega, rfl, fun h => by omega, fun h => by omega, fun k h1 h2 => by omega⟩ ⟨rfl, rfl, rfl, trivial⟩ ⟨rfl, rfl, trivial⟩ rfl (by first | exact rfl | (simp only [V.cells, refsE, refsM, V.refs, V.refs.go, V.pure, V.pure.go, pure_mapq, pure_mapb, pure_mapu, refs_mapq, refs_mapb, refs_mapu, refs_append, Bool.and_true, Bool.true_and, Bool.and_self] <;> exact rfl) | (simp only [V.cells, refsE, refsM, V.refs, V.refs.go, V.pure, V.pure.go, pure_mapq, pure_mapb, pure_mapu, refs_mapq, refs_mapb, refs_mapu, refs_append, Bool.and_true, Bool.true_and, Bool.and_self, hrf] <;> exact rfl) | (simp only [V.cells, refsE, refsM, V.refs, V.refs.go, V.pure, V.pure.go, pure_mapq, pure_mapb, pure_mapu, refs_mapq, refs_mapb, refs_mapu, refs_append, Bool.and_true, Bool.true_and, Bool.and_self, hrf, hrg] <;> exact rfl) | exact lz) (by first | exact rfl | (simp only [V.cells, refsE, refsM, V.refs, V.refs.go, V.pure, V.pure.go, pure_mapq, pure_mapb, pure_mapu, refs_mapq, refs_mapb, refs_mapu, refs_append, Bool.and_true, Bool.true_and, Bool.and_self] <;> exact rfl) | (simp only [V.cells, refsE, refsM, V.refs, V.refs.go, V.pure, V.pure.go, pure_mapq, pure_mapb, pure_mapu, refs_mapq, refs_mapb, refs_mapu, refs_append, Bool.and_true, Bool.true_and, Bool.and_self, hrf] <;> exact rfl) | (simp only [V.cells, refsE, refsM, V.refs, V.refs.go, V.pure, V.pure.go, pure_mapq, pure_mapb, pure_mapu, refs_mapq, refs_mapb, refs_mapu, refs_append, Bool.and_true, Bool.true_and, Bool.and_self, hrf, hrg] <;> exact rfl) | exact lz) ?_
  rintro i S ⟨hi, hSl, g0, g1, g2⟩
  rcases Nat.lt_or_ge i s.length with h | h
  · have hp : i < (⟨s.toArray⟩ : ByteArray).size := by omega
    have hcw : ∃ c wd : Nat, ((Utf8.decode ⟨s.toArray⟩ i).1 : Int) = (c : Int) ∧ (Utf8.decode ⟨s.toArray⟩ i).2 = wd ∧ c ≤ 1114111 ∧ ((c = (s.getD i default).toNat ∧ wd = 1) ∨ 128 ≤ c ∧ 128 ≤ (s.getD i default).toNat) := by
      rcases Nat.lt_or_ge (s.getD i default).toNat 128 with h5 | h5
      · obtain ⟨a, b⟩ := hdec i h h5
        exact ⟨_, _, a, b, by omega, .inl ⟨rfl, rfl⟩⟩
      · obtain ⟨a, _, b⟩ := hdhi i h h5
        exact ⟨_, _, rfl, rfl, b, .inr ⟨a, h5⟩⟩
    obtain ⟨c, wd, hc, hw, hc2, hcs⟩ := hcw
    clear hdec hdhi
    rcases Nat.lt_or_ge i 2 with h3 | h3
    · have hi2 : i = 0 ∨ i = 1 := by omega
      have e1 : IntKind.u8.wrap (c : Int) = ((c % 256 : Nat) : Int) := by rw [to_u8]
      rcases hi2 with rfl | rfl
      · have g : (s.getD 0 default) = 48 ∨ 120 < c ∨ (c ≠ 48 ∧ c ≤ 255) := by
          rcases hcs with ⟨a, _⟩ | ⟨a, _⟩
          · by_cases h48 : c = 48
            · left; apply UInt8.toNat_inj.1; rw [← a, h48]; rfl
            · have := (s.getD 0 default).toNat_lt; right; right; omega
          · right; left; omega
        by_cases hm : c % 256 = 48
        · by_cases h120 : 120 < c
          · have e2 : ((c % 256 : Nat) : Int) = 48 := by omega
            clear g hcs g2 key
            exact wk trueW trueW trueW
          · obtain rfl : wd = 1 := by rcases hcs with ⟨_, a⟩ | ⟨a, _⟩; exact a; omega
            have hok : 0 + 1 ≤ s.length ∧ S.length = 0 + 1 - 2 ∧ (0 < 0 + 1 → s.getD 0 default = 48) ∧ (1 < 0 + 1 → s.getD 1 default = 120) ∧ (∀ k, 2 ≤ k → k < 0 + 1 → (Hx.ud (s.getD k default).toNat).toNat ≤ 15) :=
              ⟨by omega, by omega, fun _ => by rcases g with g | g | g; exact g; omega; omega, fun h => by omega, fun k h1 h2 => by omega⟩
            have e2 : ((c % 256 : Nat) : Int) = 48 := by omega
            clear g hcs g2 key g0 g1
            exact wk trueW trueW trueW
        · have e2 : ¬ ((c % 256 : Nat) : Int) = 48 := by omega
          clear g hcs g2 key
          exact wk trueW trueW trueW
      · have g : (s.getD 1 default) = 120 ∨ 120 < c ∨ (c ≠ 120 ∧ c ≤ 255) := by
          rcases hcs with ⟨a, _⟩ | ⟨a, _⟩
          · by_cases h48 : c = 120
            · left; apply UInt8.toNat_inj.1; rw [← a, h48]; rfl
            · have := (s.getD 1 default).toNat_lt; right; right; omega
          · right; left; omega
        by_cases hm : c % 256 = 120
        · by_cases h120 : 120 < c
          · have e2 : ((c % 256 : Nat) : Int) = 120 := by omega
            clear g hcs g2 key
            exact wk trueW trueW trueW
          · obtain rfl : wd = 1 := by rcases hcs with ⟨_, a⟩ | ⟨a, _⟩; exact a; omega
            have hok : 1 + 1 ≤ s.length ∧ S.length = 1 + 1 - 2 ∧ (0 < 1 + 1 → s.getD 0 default = 48) ∧ (1 < 1 + 1 → s.getD 1 default = 120) ∧ (∀ k, 2 ≤ k → k < 1 + 1 → (Hx.ud (s.getD k default).toNat).toNat ≤ 15) :=
              ⟨by omega, by omega, fun _ => g0 (by omega), fun _ => by rcases g with g | g | g; exact g; omega; omega, fun k h1 h2 => by omega⟩
            have e2 : ((c % 256 : Nat) : Int) = 120 := by omega
            clear g hcs g2 key g0 g1
            exact wk trueW trueW trueW
        · have e2 : ¬ ((c % 256 : Nat) : Int) = 120 := by omega
          clear g hcs g2 key
          exact wk trueW trueW trueW
    · have hi2 : ¬ (i : Int) < 2 := by omega
      have c1 := digit c hc2
      by_cases hu : (Hx.ud c).toNat ≤ 15
      · have hwd : c = (s.getD i default).toNat ∧ wd = 1 := by
          rcases hcs with a | ⟨a, _⟩
          · exact a
          · rw [ud_hi a] at hu; exact absurd hu (by decide)
        obtain ⟨rfl, rfl⟩ := hwd
        have hok : i + 1 ≤ s.length ∧ (S ++ [Hx.ud (s.getD i default).toNat]).length = i + 1 - 2 ∧ (0 < i + 1 → s.getD 0 default = 48) ∧ (1 < i + 1 → s.getD 1 default = 120) ∧ (∀ k, 2 ≤ k → k < i + 1 → (Hx.ud (s.getD k default).toNat).toNat ≤ 15) :=
          ⟨by omega, by rw [List.length_append, hSl]; simp; omega, fun _ => g0 (by omega), fun _ => g1 (by omega), fun k h1 h2 => by
            rcases Nat.lt_or_ge k i with h4 | h4
            · exact g2 k h1 h4
            · obtain rfl : k = i := by omega
              exact hu⟩
        have hu2 : ¬ ((Hx.ud (s.getD i default).toNat).toNat : Int) > 15 := by omega
        generalize Hx.ud (s.getD i default).toNat = u at *
        generalize (s.getD i default).toNat = c at *
        clear hcs g2 key g0 g1
        exact wk trueW trueW trueW
      · have hu2 : ((Hx.ud c).toNat : Int) > 15 := by omega
        generalize Hx.ud c = u at *
        clear hcs g2 key g0 g1
        exact wk trueW trueW trueW
  · obtain rfl : i = s.length := by omega
    have h2 : ¬ 2 ≤ s.length := fun h2 => key h2 (g0 (by omega)) (g1 (by omega)) g2
    have hS : S = [] := List.eq_nil_of_length_eq_zero (by omega)
    subst hS
    have hp : (⟨s.toArray⟩ : ByteArray).size ≤ s.length := by omega
    clear hdec hdhi key g0 g1 g2
    exact wk trueW trueW trueW
end Hw
end Lf
end Go.Proofs.Ytclkpjefklahfaa

/- Package hex: Print, Parse. -/
namespace Go.Proofs.Ytclkpjefklahfaa
open Go.RowKit Rg Wm Ar
set_option maxRecDepth 100000
namespace Lf
theorem print_take (l : List UInt8) {i : Nat} (h : i < l.length) : Hx.print (l.take i) ++ ([Hx.dig (UInt8.ofNat ((l.getD i default).toNat / 16)), Hx.dig (UInt8.ofNat ((l.getD i default).toNat % 16))]) = Hx.print (l.take (i + 1)) := by
  rw [List.take_add_one, List.getD_eq_getElem?_getD, List.getElem?_eq_getElem h]
  simp only [Hx.print, Hx.txt, Hx.hv_app, Hx.hv, List.map_append, List.map_cons, List.map_nil, List.cons_append, Option.getD_some, Option.toList_some]
theorem shr_u8c {a : Nat} : ((a : Nat) : Int).fdiv (2 ^ (min (4 : Int).toNat IntKind.u8.bits)) = ((a / 16 : Nat) : Int) := shr_nat (k := .u8) (s := 4) (by decide)
theorem and_u8c {a : UInt8} : IntKind.u8.wrap (((BitVec.ofInt IntKind.u8.bits (a.toNat : Int) &&& BitVec.ofInt IntKind.u8.bits 15).toNat : Nat) : Int) = ((a.toNat % 16 : Nat) : Int) := by
  have := and_nat (k := .u8) rfl (a := a.toNat) (b := 15) (by have := a.toNat_lt; exact this) (by decide)
  rw [show a.toNat % 16 = a.toNat &&& 15 from (Nat.and_two_pow_sub_one_eq_mod a.toNat 4).symm]
  exact this
namespace Hw
set_option maxHeartbeats 2000000 in
theorem Print (l : List UInt8) (hl : l.length < 400000000) : LF Try.prog 10 [.s none (l.map bK)] (fun _ => sK (Hx.print l)) none := by
  refine LFx.mk' tt Try.func10 rfl rfl rfl (by kernel_rfl) rfl rfl fun F => ?_
  refine wk ?_ trueW trueW
  refine LC.loop2 (fun i S => [(3, .s (some 6) (S.map bK)), (8, .s none (l.map bK)), (9, .k (.int .i64 ((l.length : Nat) : Int))), (10, .k (.int .i64 ((i : Nat) : Int)))]) (fun i S => [(6, .r 5 1 S.length)]) (fun i S => i ≤ l.length ∧ S = Hx.print (l.take i)) ((l.length - ·)) (0) ((Hx.print [])) ⟨by omega, by simp⟩ ⟨rfl, rfl, rfl, rfl, trivial⟩ ⟨rfl, trivial⟩ rfl (by first | exact rfl | (simp only [V.cells, refsE, refsM, V.refs, V.refs.go, V.pure, V.pure.go, pure_mapq, pure_mapb, pure_mapu, refs_mapq, refs_mapb, refs_mapu, refs_append, Bool.and_true, Bool.true_and, Bool.and_self] <;> exact rfl) | (simp only [V.cells, refsE, refsM, V.refs, V.refs.go, V.pure, V.pure.go, pure_mapq, pure_mapb, pure_mapu, refs_mapq, refs_mapb, refs_mapu, refs_append, Bool.and_true, Bool.true_and, Bool.and_self, hrf] <;> exact rfl) | (simp only [V.cells, refsE, refsM, V.refs, V.refs.go, V.pure, V.pure.go, pure_mapq, pure_mapb, pure_mapu, refs_mapq, refs_mapb, refs_mapu, refs_append, Bool.and_true, Bool.true_and, Bool.and_self, hrf, hrg] <;> exact rfl) | exact lz) (by first | exact rfl | (simp only [V.cells, refsE, refsM, V.refs, V.refs.go, V.pure, V.pure.go, pure_mapq, pure_mapb, pure_mapu, refs_mapq, refs_mapb, refs_mapu, refs_append, Bool.and_true, Bool.true_and, Bool.and_self] <;> exact rfl) | (simp only [V.cells, refsE, refsM, V.refs, V.refs.go, V.pure, V.pure.go, pure_mapq, pure_mapb, pure_mapu, refs_mapq, refs_mapb, refs_mapu, refs_append, Bool.and_true, Bool.true_and, Bool.and_self, hrf] <;> exact rfl) | (simp only [V.cells, refsE, refsM, V.refs, V.refs.go, V.pure, V.pure.go, pure_mapq, pure_mapb, pure_mapu, refs_mapq, refs_mapb, refs_mapu, refs_append, Bool.and_true, Bool.true_and, Bool.and_self, hrf, hrg] <;> exact rfl) | exact lz) ?_
  rintro i S ⟨hi, hS⟩
  have hSl : S.length = 2 + 2 * i := by rw [hS, Hx.print_len, List.length_take]; omega
  rcases Nat.lt_or_ge i l.length with h | h
  · have hx := (l.getD i default).toNat_lt
    have e1 := shr_u8c (a := (l.getD i default).toNat)
    have e2 := and_u8c (a := l.getD i default)
    have d1 : Hx.digL.getD ((l.getD i default).toNat / 16) default = Hx.dig (UInt8.ofNat ((l.getD i default).toNat / 16)) := by unfold Hx.dig; rw [UInt8.toNat_ofNat']; congr 1; omega
    have d2 : Hx.digL.getD ((l.getD i default).toNat % 16) default = Hx.dig (UInt8.ofNat ((l.getD i default).toNat % 16)) := by unfold Hx.dig; rw [UInt8.toNat_ofNat']; congr 1; omega
    have hok : i + 1 ≤ l.length ∧ S ++ [Hx.digL.getD ((l.getD i default).toNat / 16) default, Hx.digL.getD ((l.getD i default).toNat % 16) default] = Hx.print (l.take (i + 1)) := ⟨by omega, by rw [d1, d2, hS]; exact print_take l h⟩
    clear hS d1 d2
    exact wk trueW trueW trueW
  · obtain rfl : i = l.length := by omega
    rw [List.take_length] at hS
    subst hS
    clear hi h
    exact wk trueW trueW trueW
end Hw
end Lf
end Go.Proofs.Ytclkpjefklahfaa

/- Package hex: Parse, Number, ParseNumber. -/
namespace Go.Proofs.Ytclkpjefklahfaa
open Go.RowKit Rg Wm Ar
set_option maxRecDepth 100000
namespace Lf
abbrev erK (z : Int) : V := .k (.int .i64 z)
theorem or16_0 : ∀ a, a < 16 → ∀ b, b < 16 → (UInt8.ofNat (a * 2 ^ 4) ||| UInt8.ofNat b) = UInt8.ofNat (a * 16 + b) := by decide
theorem or16 {a b : UInt8} (ha : a.toNat < 16) (hb : b.toNat < 16) : (UInt8.ofNat (a.toNat * 2 ^ 4) ||| b) = UInt8.ofNat (a.toNat * 16 + b.toNat) := by
  have := or16_0 a.toNat ha b.toNat hb
  rwa [Hx.of_toNat] at this
theorem pairs_app : ∀ (d : List UInt8) (a b : UInt8), d.length % 2 = 0 → Hx.pairs (d ++ [a, b]) = Hx.pairs d ++ [UInt8.ofNat (a.toNat * 16 + b.toNat)]
  | [], _, _, _ => rfl
  | [_], _, _, h => by simp at h
  | x :: y :: d, a, b, h => by
    have := pairs_app d a b (by simp only [List.length_cons] at h; omega)
    simp only [List.cons_append, Hx.pairs, this]
theorem take_two (d : List UInt8) {i : Nat} (h : i + 1 < d.length) : d.take (i + 2) = d.take i ++ [d.getD i default, d.getD (i + 1) default] := by
  rw [show i + 2 = i + 1 + 1 from rfl, List.take_add_one, List.take_add_one, List.getD_eq_getElem?_getD, List.getD_eq_getElem?_getD, List.getElem?_eq_getElem (show i < d.length by omega), List.getElem?_eq_getElem h, List.append_assoc]
  rfl
theorem small_at {d : List UInt8} (h : Hx.Small d) (i : Nat) : (d.getD i default).toNat < 16 := by
  rw [List.getD_eq_getElem?_getD]
  by_cases hi : i < d.length
  · rw [List.getElem?_eq_getElem hi]; exact h _ (List.getElem_mem hi)
  · rw [List.getElem?_eq_none (by omega)]; decide
namespace Hw
set_option maxHeartbeats 2000000 in
theorem Parse_ok (d : List UInt8) (hd : Hx.Small d) (he : d.length % 2 = 0) (hl : d.length < 1000000000) : LF Try.prog 9 [sK (Hx.txt d)] (fun _ => .t [.s none ((Hx.pairs d).map bK), erK 0]) none := by
  have c1 := halves_ok d hd hl
  have hp2 := Hx.pairs_len d
  generalize Hx.txt d = s at *
  have he2 : ((d.length % 2 : Nat) : Int) ≠ 1 := by omega
  refine LFx.mk' tt Try.func9 rfl rfl rfl (by kernel_rfl) rfl rfl fun F => ?_
  refine wk ?_ trueW trueW
  refine LC.nilrow 6 50 5 1 rfl rfl rfl ?_
  refine LC.loop2 (fun i S => [(4, .s none (d.map bK)), (6, .s (some 50) (S.map bK)), (7, .k (.int .i64 ((i : Nat) : Int)))]) (fun i S => [(50, .r 5 1 S.length)]) (fun i S => i ≤ d.length ∧ i % 2 = 0 ∧ S = Hx.pairs (d.take i)) ((d.length - ·)) (0) ([]) ⟨by omega, rfl, rfl⟩ ⟨rfl, rfl, rfl, trivial⟩ ⟨rfl, trivial⟩ rfl (by first | exact rfl | (simp only [V.cells, refsE, refsM, V.refs, V.refs.go, V.pure, V.pure.go, pure_mapq, pure_mapb, pure_mapu, refs_mapq, refs_mapb, refs_mapu, refs_append, Bool.and_true, Bool.true_and, Bool.and_self] <;> exact rfl) | (simp only [V.cells, refsE, refsM, V.refs, V.refs.go, V.pure, V.pure.go, pure_mapq, pure_mapb, pure_mapu, refs_mapq, refs_mapb, refs_mapu, refs_append, Bool.and_true, Bool.true_and, Bool.and_self, hrf] <;> exact rfl) | (simp only [V.cells, refsE, refsM, V.refs, V.refs.go, V.pure, V.pure.go, pure_mapq, pure_mapb, pure_mapu, refs_mapq, refs_mapb, refs_mapu, refs_append, Bool.and_true, Bool.true_and, Bool.and_self, hrf, hrg] <;> exact rfl) | exact lz) (by first | exact rfl | (simp only [V.cells, refsE, refsM, V.refs, V.refs.go, V.pure, V.pure.go, pure_mapq, pure_mapb, pure_mapu, refs_mapq, refs_mapb, refs_mapu, refs_append, Bool.and_true, Bool.true_and, Bool.and_self] <;> exact rfl) | (simp only [V.cells, refsE, refsM, V.refs, V.refs.go, V.pure, V.pure.go, pure_mapq, pure_mapb, pure_mapu, refs_mapq, refs_mapb, refs_mapu, refs_append, Bool.and_true, Bool.true_and, Bool.and_self, hrf] <;> exact rfl) | (simp only [V.cells, refsE, refsM, V.refs, V.refs.go, V.pure, V.pure.go, pure_mapq, pure_mapb, pure_mapu, refs_mapq, refs_mapb, refs_mapu, refs_append, Bool.and_true, Bool.true_and, Bool.and_self, hrf, hrg] <;> exact rfl) | exact lz) ?_
  rintro i S ⟨hi, hi2, hS⟩
  have hSl : S.length = i / 2 := by rw [hS, Hx.pairs_len, List.length_take]; omega
  rcases Nat.lt_or_ge i d.length with h | h
  · have hok : i + 2 ≤ d.length ∧ (i + 2) % 2 = 0 ∧ S ++ [UInt8.ofNat ((d.getD i default).toNat * 2 ^ 4) ||| d.getD (i + 1) default] = Hx.pairs (d.take (i + 2)) := ⟨by omega, by omega, by
      rw [or16 (small_at hd _) (small_at hd _), take_two d (by omega), pairs_app _ _ _ (by rw [List.length_take]; omega), hS]⟩
    clear hS
    exact wk trueW trueW trueW
  · obtain rfl : i = d.length := by omega
    rw [List.take_length] at hS
    subst hS
    exact wk trueW trueW trueW
set_option maxHeartbeats 2000000 in
theorem Parse_no (s : List UInt8) (h : Hx.parse s = none) (hl : s.length < 1000000000) : LF Try.prog 9 [sK s] (fun _ => .t [.s none [], erK 1]) none := by
  unfold Hx.parse at h
  cases hh : Hx.halves s with
  | none =>
    have c1 := halves_no s hh hl
    clear h hh
    refine LFx.mk' tt Try.func9 rfl rfl rfl (by kernel_rfl) rfl rfl fun F => ?_
    exact wk trueW trueW trueW
  | some d =>
    rw [hh] at h
    simp only at h
    have hodd : d.length % 2 = 1 := Classical.byContradiction fun hn => by rw [if_neg hn] at h; cases h
    obtain ⟨hd, rfl⟩ := Hx.halves_spec hh
    have hl2 : d.length < 1000000000 := by simp only [Hx.txt, List.length_cons, List.length_map] at hl; omega
    have c1 := halves_ok d hd hl2
    clear h hh
    generalize Hx.txt d = s at *
    have he2 : ((d.length % 2 : Nat) : Int) = 1 := by omega
    refine LFx.mk' tt Try.func9 rfl rfl rfl (by kernel_rfl) rfl rfl fun F => ?_
    exact wk trueW trueW trueW
end Hw
end Lf
end Go.Proofs.Ytclkpjefklahfaa

/- Package hex: Number, ParseNumber; what is alive. -/
namespace Go.Proofs.Ytclkpjefklahfaa
open Go.RowKit Rg Wm Ar
set_option maxRecDepth 100000
namespace Lf
theorem nz_head (a b : UInt8) (l : List UInt8) : Hx.nz (a :: b :: l) = if a = 0 then Hx.nz (b :: l) else a :: b :: l := rfl
theorem dig_zero {a : UInt8} (h : a.toNat < 16) : ((Hx.dig a).toNat : Int) = 48 ↔ a = 0 := by
  have h48 : (Hx.dig a = Hx.dig 0) ↔ a = 0 := ⟨Hx.dig_inj h (by decide), fun h => by rw [h]⟩
  rw [← h48]
  have e : Hx.dig 0 = 48 := by decide
  rw [e, ← UInt8.toNat_inj]
  constructor
  · intro k; show (Hx.dig a).toNat = 48; omega
  · intro k; have k : (Hx.dig a).toNat = 48 := k; omega
theorem num_take (d : List UInt8) {i : Nat} (h : i < d.length) : Hx.num (d.take (i + 1)) = Hx.num (d.take i) * 16 + (d.getD i default).toNat := by
  rw [List.take_add_one, List.getD_eq_getElem?_getD, List.getElem?_eq_getElem h]
  exact Hx.num_one _ _
namespace Hw
set_option maxHeartbeats 2000000 in
theorem Number (x : Nat) : LF Try.prog 12 [wV x] (fun _ => sK (Hx.txt (Hx.numD x))) none := by
  have c1 := Wo.Bytes x
  have hbl := wordB_len x
  have hl := limbs_len x
  have hne : Hx.hv (wordB x) ≠ [] := fun e => by have := Hx.hv_len (wordB x); rw [e, hbl] at this; simp at this
  have hsm := Hx.hv_small (wordB x)
  have e32 : ((wordB x).drop 0).take (32 - 0) = wordB x := List.take_of_length_le (by rw [List.drop_zero]; omega)
  have c2 := Print (((wordB x).drop 0).take (32 - 0)) (by rw [e32]; omega)
  rw [show Hx.print (((wordB x).drop 0).take (32 - 0)) = Hx.print (wordB x) by rw [e32]] at c2
  have hpl := Hx.print_len (wordB x)
  have hdr : (Hx.print (wordB x)).drop 2 = (Hx.hv (wordB x)).map Hx.dig := rfl
  have hn : Hx.numD x = Hx.nz (Hx.hv (wordB x)) := rfl
  rw [hn]
  clear hn
  generalize Hx.print (wordB x) = s at *
  generalize Hx.hv (wordB x) = D0 at *
  clear e32
  generalize wordB x = B at *
  refine LFx.mk' tt Try.func12 rfl rfl rfl (by kernel_rfl) rfl rfl fun F => ?_
  refine wk ?_ trueW trueW
  refine LC.loopN (fun S => [(4, sK S)]) (fun S => []) (fun S => (∃ D, S = D.map Hx.dig ∧ D ≠ [] ∧ Hx.Small D ∧ Hx.nz D = Hx.nz D0) ∧ S.length ≤ 100) (List.length) (((s.drop 2).take (s.length - 2))) ⟨⟨D0, by rw [hdr]; exact List.take_of_length_le (by rw [← hdr, List.length_drop]; omega), hne, hsm, rfl⟩, by rw [List.length_take]; omega⟩ ⟨rfl, trivial⟩ trivial rfl (by first | exact rfl | (simp only [V.cells, refsE, refsM, V.refs, V.refs.go, V.pure, V.pure.go, pure_mapq, pure_mapb, pure_mapu, refs_mapq, refs_mapb, refs_mapu, refs_append, Bool.and_true, Bool.true_and, Bool.and_self] <;> exact rfl) | (simp only [V.cells, refsE, refsM, V.refs, V.refs.go, V.pure, V.pure.go, pure_mapq, pure_mapb, pure_mapu, refs_mapq, refs_mapb, refs_mapu, refs_append, Bool.and_true, Bool.true_and, Bool.and_self, hrf] <;> exact rfl) | (simp only [V.cells, refsE, refsM, V.refs, V.refs.go, V.pure, V.pure.go, pure_mapq, pure_mapb, pure_mapu, refs_mapq, refs_mapb, refs_mapu, refs_append, Bool.and_true, Bool.true_and, Bool.and_self, hrf, hrg] <;> exact rfl) | exact lz) (by first | exact rfl | (simp only [V.cells, refsE, refsM, V.refs, V.refs.go, V.pure, V.pure.go, pure_mapq, pure_mapb, pure_mapu, refs_mapq, refs_mapb, refs_mapu, refs_append, Bool.and_true, Bool.true_and, Bool.and_self] <;> exact rfl) | (simp only [V.cells, refsE, refsM, V.refs, V.refs.go, V.pure, V.pure.go, pure_mapq, pure_mapb, pure_mapu, refs_mapq, refs_mapb, refs_mapu, refs_append, Bool.and_true, Bool.true_and, Bool.and_self, hrf] <;> exact rfl) | (simp only [V.cells, refsE, refsM, V.refs, V.refs.go, V.pure, V.pure.go, pure_mapq, pure_mapb, pure_mapu, refs_mapq, refs_mapb, refs_mapu, refs_append, Bool.and_true, Bool.true_and, Bool.and_self, hrf, hrg] <;> exact rfl) | exact lz) ?_
  clear hdr hsm hne
  rintro S ⟨⟨D, hS, hD, hs, hnz⟩, hS100⟩
  match D, hD with
  | [a], _ =>
    have hS1 : S.length = 1 := by rw [hS]; rfl
    have hv1 : sK ([48, 120] ++ S) = sK (Hx.txt (Hx.nz D0)) := by rw [← hnz, hS]; rfl
    clear hS
    exact wk trueW trueW trueW
  | a :: b :: D, _ =>
    have hS1 : 1 < S.length := by rw [hS]; simp
    have hg : S.getD 0 default = Hx.dig a := by rw [hS]; rfl
    have ha := hs a (by simp)
    have hz := dig_zero ha
    rw [← hg] at hz
    by_cases h0 : a = 0
    · have hz2 := hz.2 h0
      have hd1 : (S.drop 1).length = S.length - 1 := List.length_drop
      have hok : (∃ D, ((S.drop 1).take (S.length - 1)) = D.map Hx.dig ∧ D ≠ [] ∧ Hx.Small D ∧ Hx.nz D = Hx.nz D0) ∧ ((S.drop 1).take (S.length - 1)).length ≤ 100 :=
        ⟨⟨b :: D, by rw [List.take_of_length_le (by omega), hS]; rfl, by simp, fun c hc => hs c (by simp only [List.mem_cons] at hc ⊢; exact .inr hc), by rw [← hnz, nz_head, if_pos h0]⟩, by rw [List.length_take]; omega⟩
      clear hz hg hS hnz
      exact wk trueW trueW trueW
    · have hz2 : ¬ ((S.getD 0 default).toNat : Int) = 48 := fun e => h0 (hz.1 e)
      have hv1 : sK ([48, 120] ++ S) = sK (Hx.txt (Hx.nz D0)) := by rw [← hnz, hS, nz_head, if_neg h0]; rfl
      clear hz hg hS hnz
      exact wk trueW trueW trueW
set_option maxHeartbeats 2000000 in
theorem ParseNumber_ok (d : List UInt8) (hd : Hx.Small d) (h0 : 0 < d.length) (h64 : d.length ≤ 64) (hz : 1 < d.length → d.head? ≠ some 0) : LF Try.prog 11 [sK (Hx.txt d)] (fun _ => .t [wV (Hx.num d), erK 0]) none := by
  have c1 := halves_ok d hd (by omega)
  have c2 := Wo.IntW 16 (by unfold m64; decide)
  generalize Hx.txt d = s at *
  have hz2 : 1 < d.length → ¬ ((d.getD 0 default).toNat : Int) = 0 := fun h e => hz h (by
    cases d with
    | nil => simp at h
    | cons a r =>
      have e2 : (a.toNat : Int) = 0 := e
      simp only [List.head?_cons, Option.some.injEq]; apply UInt8.toNat_inj.1
      show a.toNat = 0
      omega)
  clear hz
  have fin : ∀ (F : Fr0) (env : Env) (_he : True), True := fun _ _ _ => trivial
  clear fin
  refine LFx.mk' tt Try.func11 rfl rfl rfl (by kernel_rfl) rfl rfl fun F => ?_
  rcases Nat.lt_or_ge 1 d.length with h1 | h1
  · have hz3 := hz2 h1
    clear hz2
    refine wk ?_ trueW trueW
    refine LC.loop2 (fun i L => [(2, .p 2 0), (6, .p 6 0), (38, .s none (d.map bK)), (39, .k (.int .i64 ((d.length : Nat) : Int))), (40, .k (.int .i64 ((i : Nat) : Int)))]) (fun i L => [(2, .b ((List.replicate 4 0).map uK)), (6, .b (L.map uK))]) (fun i L => i ≤ d.length ∧ L = limbs (Hx.num (d.take i))) ((d.length - ·)) (0) ((List.replicate 4 0)) ⟨by omega, by rw [List.take_zero]; unfold limbs; decide⟩ ⟨rfl, rfl, rfl, rfl, rfl, trivial⟩ ⟨rfl, rfl, trivial⟩ rfl (by first | exact rfl | (simp only [V.cells, refsE, refsM, V.refs, V.refs.go, V.pure, V.pure.go, pure_mapq, pure_mapb, pure_mapu, refs_mapq, refs_mapb, refs_mapu, refs_append, Bool.and_true, Bool.true_and, Bool.and_self] <;> exact rfl) | (simp only [V.cells, refsE, refsM, V.refs, V.refs.go, V.pure, V.pure.go, pure_mapq, pure_mapb, pure_mapu, refs_mapq, refs_mapb, refs_mapu, refs_append, Bool.and_true, Bool.true_and, Bool.and_self, hrf] <;> exact rfl) | (simp only [V.cells, refsE, refsM, V.refs, V.refs.go, V.pure, V.pure.go, pure_mapq, pure_mapb, pure_mapu, refs_mapq, refs_mapb, refs_mapu, refs_append, Bool.and_true, Bool.true_and, Bool.and_self, hrf, hrg] <;> exact rfl) | exact lz) (by first | exact rfl | (simp only [V.cells, refsE, refsM, V.refs, V.refs.go, V.pure, V.pure.go, pure_mapq, pure_mapb, pure_mapu, refs_mapq, refs_mapb, refs_mapu, refs_append, Bool.and_true, Bool.true_and, Bool.and_self] <;> exact rfl) | (simp only [V.cells, refsE, refsM, V.refs, V.refs.go, V.pure, V.pure.go, pure_mapq, pure_mapb, pure_mapu, refs_mapq, refs_mapb, refs_mapu, refs_append, Bool.and_true, Bool.true_and, Bool.and_self, hrf] <;> exact rfl) | (simp only [V.cells, refsE, refsM, V.refs, V.refs.go, V.pure, V.pure.go, pure_mapq, pure_mapb, pure_mapu, refs_mapq, refs_mapb, refs_mapu, refs_append, Bool.and_true, Bool.true_and, Bool.and_self, hrf, hrg] <;> exact rfl) | exact lz) ?_
    rintro i L ⟨hi, hL⟩
    generalize hv : Hx.num (d.take i) = v at hL
    have hlv := limbs_len v
    subst hL
    rcases Nat.lt_or_ge i d.length with h | h
    · have hlt := (d.getD i default).toNat_lt
      have c3 := Wo.Mul v 16
      have c4 := Wo.IntW (d.getD i default).toNat (by unfold m64; omega)
      have c5 := Wo.Add (v * 16) (d.getD i default).toNat
      have hok : i + 1 ≤ d.length ∧ limbs (v * 16 + (d.getD i default).toNat) = limbs (Hx.num (d.take (i + 1))) := ⟨by omega, by rw [num_take d h, hv]⟩
      have hl2 := limbs_len (v * 16 + (d.getD i default).toNat)
      clear hv
      exact wk trueW trueW trueW
    · obtain rfl : i = d.length := by omega
      rw [List.take_length] at hv
      subst hv
      exact wk trueW trueW trueW
  · refine wk ?_ trueW trueW
    refine LC.loop2 (fun i L => [(2, .p 2 0), (6, .p 6 0), (38, .s none (d.map bK)), (39, .k (.int .i64 ((d.length : Nat) : Int))), (40, .k (.int .i64 ((i : Nat) : Int)))]) (fun i L => [(2, .b ((List.replicate 4 0).map uK)), (6, .b (L.map uK))]) (fun i L => i ≤ d.length ∧ L = limbs (Hx.num (d.take i))) ((d.length - ·)) (0) ((List.replicate 4 0)) ⟨by omega, by rw [List.take_zero]; unfold limbs; decide⟩ ⟨rfl, rfl, rfl, rfl, rfl, trivial⟩ ⟨rfl, rfl, trivial⟩ rfl (by first | exact rfl | (simp only [V.cells, refsE, refsM, V.refs, V.refs.go, V.pure, V.pure.go, pure_mapq, pure_mapb, pure_mapu, refs_mapq, refs_mapb, refs_mapu, refs_append, Bool.and_true, Bool.true_and, Bool.and_self] <;> exact rfl) | (simp only [V.cells, refsE, refsM, V.refs, V.refs.go, V.pure, V.pure.go, pure_mapq, pure_mapb, pure_mapu, refs_mapq, refs_mapb, refs_mapu, refs_append, Bool.and_true, Bool.true_and, Bool.and_self, hrf] <;> exact rfl) | (simp only [V.cells, refsE, refsM, V.refs, V.refs.go, V.pure, V.pure.go, pure_mapq, pure_mapb, pure_mapu, refs_mapq, refs_mapb, refs_mapu, refs_append, Bool.and_true, Bool.true_and, Bool.and_self, hrf, hrg] <;> exact rfl) | exact lz) (by first | exact rfl | (simp only [V.cells, refsE, refsM, V.refs, V.refs.go, V.pure, V.pure.go, pure_mapq, pure_mapb, pure_mapu, refs_mapq, refs_mapb, refs_mapu, refs_append, Bool.and_true, Bool.true_and, Bool.and_self] <;> exact rfl) | (simp only [V.cells, refsE, refsM, V.refs, V.refs.go, V.pure, V.pure.go, pure_mapq, pure_mapb, pure_mapu, refs_mapq, refs_mapb, refs_mapu, refs_append, Bool.and_true, Bool.true_and, Bool.and_self, hrf] <;> exact rfl) | (simp only [V.cells, refsE, refsM, V.refs, V.refs.go, V.pure, V.pure.go, pure_mapq, pure_mapb, pure_mapu, refs_mapq, refs_mapb, refs_mapu, refs_append, Bool.and_true, Bool.true_and, Bool.and_self, hrf, hrg] <;> exact rfl) | exact lz) ?_
    rintro i L ⟨hi, hL⟩
    generalize hv : Hx.num (d.take i) = v at hL
    have hlv := limbs_len v
    subst hL
    rcases Nat.lt_or_ge i d.length with h | h
    · have hlt := (d.getD i default).toNat_lt
      have c3 := Wo.Mul v 16
      have c4 := Wo.IntW (d.getD i default).toNat (by unfold m64; omega)
      have c5 := Wo.Add (v * 16) (d.getD i default).toNat
      have hok : i + 1 ≤ d.length ∧ limbs (v * 16 + (d.getD i default).toNat) = limbs (Hx.num (d.take (i + 1))) := ⟨by omega, by rw [num_take d h, hv]⟩
      have hl2 := limbs_len (v * 16 + (d.getD i default).toNat)
      clear hv
      exact wk trueW trueW trueW
    · obtain rfl : i = d.length := by omega
      rw [List.take_length] at hv
      subst hv
      exact wk trueW trueW trueW
end Hw
end Lf
end Go.Proofs.Ytclkpjefklahfaa

/- Package hex: ParseNumber, where there is none; what is alive. -/
namespace Go.Proofs.Ytclkpjefklahfaa
open Go.RowKit Rg Wm Ar
set_option maxRecDepth 100000
namespace Lf
theorem eqS (a b : List UInt8) : arithS .eql ⟨a.toArray⟩ ⟨b.toArray⟩ = some (.bool (decide (a = b))) := by
  simp only [arithS, ByteArray.toList_mk]
  by_cases h : a = b
  · subst h; simp
  · simp [h]
theorem ltS (a b : List UInt8) : arithS .lss ⟨a.toArray⟩ ⟨b.toArray⟩ = some (.bool (Op.bytesLess a b)) := by
  simp only [arithS, ByteArray.toList_mk]
theorem head_getD {d : List UInt8} (h : d.head? = some 0) : ((d.getD 0 default).toNat : Int) = 0 := by
  cases d with
  | nil => cases h
  | cons a r => simp only [List.head?_cons, Option.some.injEq] at h; subst h; rfl
namespace Hw
set_option maxHeartbeats 2000000 in
theorem ParseNumber_no (s : List UInt8) (h : Hx.parseD s = none) (hl : s.length < 1000000000) : LF Try.prog 11 [sK s] (fun _ => .t [wV 0, erK 1]) none := by
  have hz0 : wV 0 = .a ((List.replicate 4 0).map uK) := by
    have h : limbs 0 = List.replicate 4 0 := by unfold limbs; decide
    simp only [wV]; rw [h]
  rw [hz0]
  unfold Hx.parseD at h
  cases hh : Hx.halves s with
  | none =>
    have c1 := halves_no s hh hl
    clear h hh
    refine LFx.mk' tt Try.func11 rfl rfl rfl (by kernel_rfl) rfl rfl fun F => ?_
    exact wk trueW trueW trueW
  | some d =>
    rw [hh] at h
    simp only at h
    have hbad : d.length = 0 ∨ 64 < d.length ∨ (1 < d.length ∧ d.head? = some 0) := Classical.byContradiction fun hn => by rw [if_neg hn] at h; cases h
    obtain ⟨hd, rfl⟩ := Hx.halves_spec hh
    have hl2 : d.length < 1000000000 := by simp only [Hx.txt, List.length_cons, List.length_map] at hl; omega
    have c1 := halves_ok d hd hl2
    clear h hh
    generalize Hx.txt d = s at *
    rcases hbad with hb | hb | ⟨hb, hb2⟩
    · refine LFx.mk' tt Try.func11 rfl rfl rfl (by kernel_rfl) rfl rfl fun F => ?_
      exact wk trueW trueW trueW
    · refine LFx.mk' tt Try.func11 rfl rfl rfl (by kernel_rfl) rfl rfl fun F => ?_
      exact wk trueW trueW trueW
    · have hb3 := head_getD hb2
      clear hb2
      rcases Nat.lt_or_ge 64 d.length with h64 | h64
      · refine LFx.mk' tt Try.func11 rfl rfl rfl (by kernel_rfl) rfl rfl fun F => ?_
        exact wk trueW trueW trueW
      · refine LFx.mk' tt Try.func11 rfl rfl rfl (by kernel_rfl) rfl rfl fun F => ?_
        exact wk trueW trueW trueW
theorem Parse_some (s l : List UInt8) (h : Hx.parse s = some l) (hl : s.length < 1000000000) : LF Try.prog 9 [sK s] (fun _ => .t [.s none (l.map bK), erK 0]) none := by
  unfold Hx.parse at h
  split at h
  · rename_i d hd
    obtain ⟨h1, rfl⟩ := Hx.halves_spec hd
    split at h
    · cases h
    · cases h
      exact Parse_ok d h1 (by omega) (by simp only [Hx.txt, List.length_cons, List.length_map] at hl; omega)
  · cases h
theorem ParseNumber_some (s d : List UInt8) (h : Hx.parseD s = some d) : LF Try.prog 11 [sK s] (fun _ => .t [wV (Hx.num d), erK 0]) none := by
  unfold Hx.parseD at h
  split at h
  · rename_i e hd
    obtain ⟨h1, rfl⟩ := Hx.halves_spec hd
    split at h
    · cases h
    · cases h
      exact ParseNumber_ok d h1 (by omega) (by omega) (fun h e => by simp_all)
  · cases h
set_option maxHeartbeats 2000000 in
theorem alive4 : LF Try.prog 8 [] (fun _ => .k (.bool true)) none := by
  have c1 := Parse_some [48, 120, 48, 97, 102, 102] [10, 255] (by decide) (by decide)
  have c2 := ParseNumber_some [48, 120, 49, 102] [1, 15] (by decide)
  rw [show Hx.num [1, 15] = 31 by decide] at c2
  have c3 := Wo.IntW 31 (by unfold m64; decide)
  have c4 := Print [10, 255] (by decide)
  rw [show Hx.print [10, 255] = [48, 120, 48, 97, 102, 102] by decide] at c4
  have c5 := Number 31
  have e : Hx.txt (Hx.numD 31) = [48, 120, 49, 102] := (Hx.num_parseD (s := [48, 120, 49, 102]) (d := [1, 15]) (by decide)).2
  rw [e] at c5
  clear e
  have hl := limbs_len 31
  refine LFx.mk' tt Try.func8 rfl rfl rfl (by kernel_rfl) rfl rfl fun F => ?_
  exact wk trueW trueW trueW
end Hw
end Lf
end Go.Proofs.Ytclkpjefklahfaa

/- What the given statement tells of an argument: a lifted value by a datum of one's own, and a bound of its bulk. -/
namespace Go.Proofs.Ytclkpjefklahfaa
open Go.RowKit Rg Rp Go.WideShapes Go.ChangeShapes
namespace Lf
/-- Cells and what they read. -/
def RO (W : World) : List V → List Value → Prop
  | [], [] => True
  | u :: us, c :: cs => (u.one = true ∧ Rep W allS u c) ∧ RO W us cs
  | _, _ => False
theorem RO.append {W : World} : ∀ {us : List V} {cs : List Value} {vs : List V} {ds : List Value}, RO W us cs → RO W vs ds → RO W (us ++ vs) (cs ++ ds)
  | [], [], _, _, _, h => h
  | u :: us, c :: cs, _, _, h, k => ⟨h.1, RO.append h.2 k⟩
  | [], _ :: _, _, _, h, _ => h.elim
  | _ :: _, [], _, _, h, _ => h.elim
theorem RO.spec {W : World} : ∀ {us : List V} {cs : List Value}, RO W us cs → us.length = cs.length ∧ ∀ (j : Nat) u c, us[j]? = some u → cs[j]? = some c → u.one = true ∧ Rep W allS u c
  | [], [], _ => ⟨rfl, fun j u c h => by simp at h⟩
  | u :: us, c :: cs, h => by
    obtain ⟨h1, h2⟩ := RO.spec h.2
    refine ⟨by simp [h1], fun j a b ha hb => ?_⟩
    cases j with
    | zero => simp at ha hb; subst ha; subst hb; exact h.1
    | succ j => simp at ha hb; exact h2 j a b ha hb
  | [], _ :: _, h => h.elim
  | _ :: _, [], h => h.elim
theorem RO.flatten {W : World} : ∀ {uss : List (List V)} {css : List (List Value)}, uss.length = css.length → (∀ (j : Nat) us cs, uss[j]? = some us → css[j]? = some cs → RO W us cs) → RO W uss.flatten css.flatten
  | [], [], _, _ => trivial
  | us :: uss, cs :: css, hl, h => by
    rw [List.flatten_cons, List.flatten_cons]
    exact (h 0 us cs rfl rfl).append (RO.flatten (by simpa using hl) fun j a b ha hb => h (j + 1) a b (by simpa using ha) (by simpa using hb))
  | [], _ :: _, hl, _ => by simp at hl
  | _ :: _, [], hl, _ => by simp at hl
theorem mapM_some {α β : Type} {f : α → Option β} : ∀ {l : List α} {r : List β}, l.mapM f = some r → r.length = l.length ∧ ∀ (j : Nat) a, l[j]? = some a → ∃ b, r[j]? = some b ∧ f a = some b
  | [], r, h => by simp at h; subst h; simp
  | a :: l, r, h => by
    simp only [List.mapM_cons, Option.bind_eq_bind, Option.pure_def] at h
    obtain ⟨b, hb, h⟩ := Option.bind_eq_some_iff.1 h
    obtain ⟨bs, hbs, h⟩ := Option.bind_eq_some_iff.1 h
    cases h
    obtain ⟨h1, h2⟩ := mapM_some hbs
    refine ⟨by simp [h1], fun j x hj => ?_⟩
    cases j with
    | zero => simp at hj; subst hj; exact ⟨b, rfl, hb⟩
    | succ j => simp at hj; exact h2 j x hj
theorem list_choose {α : Type} {p : Nat → α → Prop} : ∀ (n : Nat), (∀ j, j < n → ∃ x, p j x) → ∃ xs : List α, xs.length = n ∧ ∀ j x, xs[j]? = some x → p j x
  | 0, _ => ⟨[], rfl, by simp⟩
  | n + 1, h => by
    obtain ⟨xs, hl, hx⟩ := list_choose n fun j hj => h j (by omega)
    obtain ⟨x, hp⟩ := h n (by omega)
    refine ⟨xs ++ [x], by simp [hl], fun j y hj => ?_⟩
    rcases Nat.lt_or_ge j xs.length with hlt | hge
    · rw [List.getElem?_append_left hlt] at hj; exact hx j y hj
    · rw [List.getElem?_append_right hge] at hj
      have : j - xs.length = 0 := by
        rcases Nat.eq_zero_or_pos (j - xs.length) with h0 | h0
        · exact h0
        · rw [List.getElem?_eq_none (by simp; omega)] at hj; cases hj
      rw [this] at hj
      simp at hj; subst hj
      obtain rfl : j = n := by omega
      exact hp
theorem range_flatten {s : Nat} : ∀ {n : Nat} {cs : List Value}, cs.length = n * s → ((List.range n).map fun i => (cs.drop (i * s)).take s).flatten = cs
  | 0, cs, h => by simp at h; subst h; rfl
  | n + 1, cs, h => by
    rw [List.range_succ_eq_map, List.map_cons, List.flatten_cons, List.map_map, Nat.zero_mul, List.drop_zero]
    have e := range_flatten (s := s) (n := n) (cs := cs.drop s) (by rw [List.length_drop, h, Nat.succ_mul]; omega)
    have e2 : ((List.range n).map ((fun i => (cs.drop (i * s)).take s) ∘ Nat.succ)) = (List.range n).map fun i => ((cs.drop s).drop (i * s)).take s := by
      refine List.map_congr_left fun i _ => ?_
      simp only [Function.comp, List.drop_drop, Nat.succ_mul]
      rw [Nat.add_comm]
    rw [e2, e]
    exact List.take_append_drop _ _
theorem flat_inv {α : Type} {f : α → List V} {k : Nat} (hk : 0 < k) : ∀ {l : List α} {J : Nat} {u : V}, (∀ a ∈ l, (f a).length = k) → (l.flatMap f)[J]? = some u → ∃ a, l[J / k]? = some a ∧ (f a)[J % k]? = some u
  | [], J, u, _, h => by simp at h
  | a :: l, J, u, hf, h => by
    rw [List.flatMap_cons] at h
    have ha := hf a (by simp)
    rcases Nat.lt_or_ge J k with hlt | hge
    · rw [List.getElem?_append_left (by omega)] at h
      exact ⟨a, by rw [Nat.div_eq_of_lt hlt]; rfl, by rw [Nat.mod_eq_of_lt hlt]; exact h⟩
    · rw [List.getElem?_append_right (by omega), ha] at h
      obtain ⟨b, h1, h2⟩ := flat_inv hk (fun a ha => hf a (by simp [ha])) h
      obtain ⟨J', rfl⟩ : ∃ J', J = J' + k := ⟨J - k, by omega⟩
      rw [Nat.add_sub_cancel] at h1 h2
      exact ⟨b, by rw [Nat.add_div_right _ hk]; exact h1, by rw [Nat.add_mod_right]; exact h2⟩
theorem sum_le {α β : Type} {f : α → Nat} {g : β → Nat} : ∀ {l : List α} {m : List β}, l.length = m.length → (∀ (j : Nat) a b, l[j]? = some a → m[j]? = some b → f a ≤ g b) → (l.map f).sum ≤ (m.map g).sum
  | [], [], _, _ => Nat.le_refl _
  | a :: l, b :: m, hl, h => by
    simp only [List.map_cons, List.sum_cons]
    exact Nat.add_le_add (h 0 a b rfl rfl) (sum_le (by simpa using hl) fun j x y hx hy => h (j + 1) x y (by simpa using hx) (by simpa using hy))
  | [], _ :: _, hl, _ => by simp at hl
  | _ :: _, [], hl, _ => by simp at hl
section
variable {H : Type} {enc : TypeId × Value → H} {P : Program} {W : World}
theorem sum_bulk (xs : List (DataW H × List MemPlace)) : (xs.map fun x => Rows.uptoBulk x.1).sum = Rows.uptoBulkAll (xs.map (·.1)) := by
  induction xs with
  | nil => simp [Rows.uptoBulkAll]
  | cons x r ih => simp [Rows.uptoBulkAll, ih]
/-- Cells of a type, as the given reader takes them: lifted by a datum of one's own. -/
structure Opn (enc : TypeId × Value → H) (P : Program) (W : World) (n T : Nat) {α : Type} (f : α → List V) (ok : α → Prop) (sz : α → Nat) : Prop where
  go : ∀ cs x, DataW.trod enc P W 0 (fun _ => true) true n T cs = some x → ∃ a, RO W (f a) cs ∧ ok a ∧ sz a ≤ Rows.uptoBulk x.1
theorem Opn.zero {T : Nat} {α : Type} {f : α → List V} {ok : α → Prop} {sz : α → Nat} : Opn enc P W 0 T f ok sz := ⟨fun cs x h => by simp [DataW.trod] at h⟩
theorem Opn.map {n T : Nat} {α β : Type} {f : α → List V} {ok : α → Prop} {sz : α → Nat} {f' : β → List V} {ok' : β → Prop} {sz' : β → Nat} (g : α → β) (h : Opn enc P W n T f ok sz) (hf : ∀ a, ok a → f' (g a) = f a) (hok : ∀ a, ok a → ok' (g a)) (hs : ∀ a, ok a → sz' (g a) ≤ sz a) : Opn enc P W n T f' ok' sz' :=
  ⟨fun cs x hx => by
    obtain ⟨a, h1, h2, h3⟩ := h.go cs x hx
    exact ⟨g a, by rw [hf a h2]; exact h1, hok a h2, Nat.le_trans (hs a h2) h3⟩⟩
theorem Opn.bool {n T : Nat} (hT : P.underlying T = some .bool) : Opn enc P W n T (fun b : Bool => [.k (.bool b)]) (fun _ => True) (fun _ => 1) := ⟨fun cs x h => by
  cases n with
  | zero => simp [DataW.trod] at h
  | succ n =>
    unfold DataW.trod at h
    rw [hT] at h
    split at h <;> rename_i hu <;> first | (cases hu; done) | skip
    all_goals first | (cases h; exact ⟨_, ⟨⟨rfl, .k _⟩, trivial⟩, trivial, by simp [Rows.uptoBulk]⟩) | cases h⟩
theorem Opn.int {n T : Nat} {k : IntKind} (hT : P.underlying T = some (.int k)) : Opn enc P W n T (fun z : Int => [.k (.int k z)]) (fun z => k.min ≤ z ∧ z ≤ k.max) (fun _ => 1) := ⟨fun cs x h => by
  cases n with
  | zero => simp [DataW.trod] at h
  | succ n =>
    unfold DataW.trod at h
    rw [hT] at h
    split at h <;> rename_i hu <;> first | (cases hu; done) | skip
    all_goals first | cases h | skip
    cases hu
    split at h
    · rename_i hw
      cases h
      obtain ⟨rfl, hw⟩ := hw
      exact ⟨_, ⟨⟨rfl, .k _⟩, trivial⟩, by simpa [Lit.wf] using hw, by simp [Rows.uptoBulk]⟩
    · cases h⟩
theorem Opn.str {n T : Nat} (hT : P.underlying T = some .string) : Opn enc P W n T (fun s : ByteArray => [.k (.string s)]) (fun s => s.size ≤ maxLen) (fun s => s.size + 1) := ⟨fun cs x h => by
  cases n with
  | zero => simp [DataW.trod] at h
  | succ n =>
    unfold DataW.trod at h
    rw [hT] at h
    split at h <;> rename_i hu <;> first | (cases hu; done) | skip
    all_goals first | cases h | skip
    split at h
    · rename_i hw
      cases h
      exact ⟨_, ⟨⟨rfl, .k _⟩, trivial⟩, hw, by simp [Rows.uptoBulk]⟩
    · cases h⟩
/-- A slice. -/
theorem Opn.sl {n T e k : Nat} {α : Type} {f : α → List V} {ok : α → Prop} {sz : α → Nat} (p : α → V) (hT : P.underlying T = some (.slice e)) (hc : P.cellsOf e = k) (hk : 0 < k) (hp : ∀ a, (p a).cells = f a) (h : Opn enc P W (n - 1) e f ok sz) :
    Opn enc P W n T (fun l : List α => [.s none (l.map p)]) (fun l => ∀ a ∈ l, ok a) (fun l => (l.map sz).sum + 1) := ⟨fun cs x hx => by
  cases n with
  | zero => simp [DataW.trod] at hx
  | succ n =>
    unfold DataW.trod at hx
    rw [hT] at hx
    split at hx <;> rename_i hu <;> first | (cases hu; done) | skip
    all_goals first | (cases hx; exact ⟨[], ⟨⟨rfl, .s0 (fun _ h => by cases h)⟩, trivial⟩, by simp, by simp [Rows.uptoBulk]⟩) | skip
    all_goals first | cases hx | skip
    cases hu
    rename_i a len cap
    simp only [hc] at hx
    split at hx
    · rename_i hb
      obtain ⟨_, hlc, hcm⟩ := hb
      obtain ⟨elems, he, hx⟩ := Option.bind_eq_some_iff.1 hx
      obtain ⟨rest, hr, hx⟩ := Option.map_eq_some_iff.1 hx
      subst hx
      obtain ⟨e1, e2⟩ := mapM_some he
      rw [List.length_range] at e1
      have key : ∀ j, j < len → ∃ y : α, (∃ b, elems[j]? = some b ∧ ok y ∧ sz y ≤ Rows.uptoBulk b.1) ∧ (f y).length = k ∧ ∀ i, i < k → ∃ u c, (f y)[i]? = some u ∧ W.cell? ((a.add (j * k)).add i) = some c ∧ u.one = true ∧ Rep W allS u c := fun j hj => by
        obtain ⟨b, h1, h2⟩ := e2 j j (by rw [List.getElem?_range hj])
        obtain ⟨ds, h3, h4⟩ := Option.bind_eq_some_iff.1 h2
        obtain ⟨y, k1, k2, k3⟩ := h.go ds b h4
        unfold World.cells? at h3
        split at h3
        · obtain ⟨m1, m2⟩ := mapM_some h3
          rw [List.length_range] at m1
          obtain ⟨l1, l2⟩ := k1.spec
          refine ⟨y, ⟨b, h1, k2, k3⟩, by omega, fun i hi => ?_⟩
          obtain ⟨c, c1, c2⟩ := m2 i i (by rw [List.getElem?_range hi])
          have hu : (f y)[i]? = some (f y)[i] := List.getElem?_eq_getElem (by omega)
          exact ⟨_, c, hu, c2, l2 i _ c hu c1⟩
        · cases h3
      obtain ⟨ys, hyl, hys⟩ := list_choose len key
      have hspot : 0 < cap → a.spot = none := fun h0 => by
        have : ∃ v : DataW H × List MemPlace, ((W.cells? 0 (a.add (0 * k)) k).bind (DataW.trod enc P W 0 (fun _ => true) true n e)) = some v := by
          rcases Nat.eq_zero_or_pos len with hl | hl
          · subst hl
            simp only [if_true] at hr
            obtain ⟨_, r2⟩ := mapM_some hr
            obtain ⟨v, _, hv⟩ := r2 0 0 (by rw [List.getElem?_range (by omega)])
            exact ⟨v, by simpa using hv⟩
          · obtain ⟨v, _, hv⟩ := e2 0 0 (by rw [List.getElem?_range hl])
            exact ⟨v, hv⟩
        obtain ⟨v, hv⟩ := this
        obtain ⟨ds, h3, _⟩ := Option.bind_eq_some_iff.1 hv
        unfold World.cells? at h3
        split at h3
        · obtain ⟨_, m2⟩ := mapM_some h3
          obtain ⟨c, _, c2⟩ := m2 0 0 (by rw [List.getElem?_range hk])
          obtain ⟨b, o, s⟩ := a
          cases s with
          | none => rfl
          | some s =>
            exfalso
            simp only [Addr.add, Nat.zero_mul] at c2
            simp [World.cell?] at c2
            split at c2 <;> simp at c2
        · cases h3
      refine ⟨ys, ⟨⟨rfl, ?_⟩, trivial⟩, fun y hy => ?_, ?_⟩
      · rcases Nat.eq_zero_or_pos cap with h0 | h0
        · obtain rfl : len = 0 := by omega
          subst h0
          have : ys = [] := List.eq_nil_of_length_eq_zero hyl
          subst this
          exact .se a (fun _ h => by cases h)
        · have hsp := hspot h0
          obtain ⟨b, o, s⟩ := a
          simp only at hsp
          subst hsp
          have hfl : ∀ y ∈ ys, (f y).length = k := fun y hy => by
            obtain ⟨j, hj⟩ := List.getElem?_of_mem hy
            exact (hys j y hj).2.1
          have hfe : (ys.map p).flatMap V.cells = ys.flatMap f := by
            rw [List.flatMap_map]
            congr 1
            funext y; exact hp y
          have hat : ∀ (J : Nat) u, (ys.flatMap f)[J]? = some u → ∃ c, W.cell? ⟨b, o + J, none⟩ = some c ∧ u.one = true ∧ Rep W allS u c := fun J u hu => by
            obtain ⟨y, h1, h2⟩ := flat_inv hk hfl hu
            obtain ⟨_, _, h3⟩ := hys _ y h1
            obtain ⟨u', c, k1, k2, k3⟩ := h3 (J % k) (Nat.mod_lt _ hk)
            rw [k1] at h2; cases h2
            rw [Addr.add_lit, Addr.add_lit, Nat.add_assoc, Nat.mul_comm, Nat.div_add_mod] at k2
            exact ⟨c, k2, k3⟩
          have hlen : (ys.map p).length = len := by simpa using hyl
          rw [← hlen]
          refine .s (size := k) (fun J => (W.cell? ⟨b, o + J, none⟩).getD undef) (by omega) hcm hk (fun v hv => ?_) (fun J u hu => ?_) (fun J u hu => ?_) (fun _ h => by cases h)
          · obtain ⟨y, hy, rfl⟩ := List.mem_map.1 hv
            rw [hp]
            refine ⟨hfl y hy, fun u hu => ?_⟩
            obtain ⟨J, hJ⟩ := List.getElem?_of_mem (List.mem_flatMap.2 ⟨y, hy, hu⟩)
            obtain ⟨_, _, h1, _⟩ := hat J u hJ
            exact h1
          · rw [hfe] at hu
            obtain ⟨c, h1, _⟩ := hat J u hu
            exact ⟨World.block_lt_of_cell? W ⟨b, o + J, none⟩ (by rw [h1]), trivial, by rw [h1]; rfl⟩
          · rw [hfe] at hu
            obtain ⟨c, h1, _, h2⟩ := hat J u hu
            rw [h1]
            exact h2
      · obtain ⟨j, hj⟩ := List.getElem?_of_mem hy
        obtain ⟨⟨b, _, h1, _⟩, _⟩ := hys j y hj
        exact h1
      · have := sum_le (f := sz) (g := fun x : DataW H × List MemPlace => Rows.uptoBulk x.1) (l := ys) (m := elems) (by omega) fun j y b hy hb => by
          obtain ⟨⟨b', hb', _, h1⟩, _⟩ := hys j y hy
          rw [hb] at hb'; cases hb'
          exact h1
        rw [sum_bulk] at this
        simp only [Rows.uptoBulk]
        omega
    · cases hx⟩
/-- A struct's fields, from a place on. -/
def tileB (P : Program) (total : Nat) : Nat → List Field → Bool
  | off, [] => Nat.beq off total
  | off, f :: r => Nat.beq f.offset off && tileB P total (off + P.cellsOf f.type) r
structure OpnFs (enc : TypeId × Value → H) (P : Program) (W : World) (n : Nat) (fs : List Field) {α : Type} (f : α → List V) (ok : α → Prop) (sz : α → Nat) : Prop where
  go : ∀ (total off : Nat) (cs : List Value) (xs : List (DataW H × List MemPlace)), tileB P total off fs = true → cs.length = total → (fs.mapM fun fl => DataW.trod enc P W 0 (fun _ => true) true n fl.type ((cs.drop fl.offset).take (P.cellsOf fl.type))) = some xs → ∃ a, RO W (f a) (cs.drop off) ∧ ok a ∧ sz a ≤ Rows.uptoBulkAll (xs.map (·.1))
theorem OpnFs.nil {n : Nat} : OpnFs enc P W n [] (fun _ : Unit => []) (fun _ => True) (fun _ => 0) := ⟨fun total off cs xs ht hl hx => by
  have : off = total := Nat.eq_of_beq_eq_true ht
  refine ⟨(), ?_, trivial, Nat.zero_le _⟩
  rw [List.drop_of_length_le (by omega)]
  trivial⟩
theorem OpnFs.cons {n : Nat} {fl : Field} {fs : List Field} {α β : Type} {f : α → List V} {ok : α → Prop} {sz : α → Nat} {f' : β → List V} {ok' : β → Prop} {sz' : β → Nat} (h : Opn enc P W n fl.type f ok sz) (k : OpnFs enc P W n fs f' ok' sz') :
    OpnFs enc P W n (fl :: fs) (fun x : α × β => f x.1 ++ f' x.2) (fun x => ok x.1 ∧ ok' x.2) (fun x => sz x.1 + sz' x.2) := ⟨fun total off cs xs ht hl hx => by
  simp only [tileB, Bool.and_eq_true] at ht
  have ho : fl.offset = off := Nat.eq_of_beq_eq_true ht.1
  simp only [List.mapM_cons, Option.bind_eq_bind, Option.pure_def] at hx
  obtain ⟨b, hb, hx⟩ := Option.bind_eq_some_iff.1 hx
  obtain ⟨bs, hbs, hx⟩ := Option.bind_eq_some_iff.1 hx
  cases hx
  obtain ⟨a, a1, a2, a3⟩ := h.go _ _ hb
  obtain ⟨c, c1, c2, c3⟩ := k.go _ _ _ _ ht.2 hl hbs
  refine ⟨(a, c), ?_, ⟨a2, c2⟩, by simp only [List.map_cons, Rows.uptoBulkAll]; omega⟩
  have := a1.append c1
  rw [ho, ← List.drop_drop, List.take_append_drop] at this
  exact this⟩
theorem Opn.st {n T : Nat} {fs : Array Field} {α : Type} {f : α → List V} {ok : α → Prop} {sz : α → Nat} (hT : P.underlying T = some (.struct fs)) (ht : tileB P (P.cellsOf T) 0 fs.toList = true) (h : OpnFs enc P W (n - 1) fs.toList f ok sz) :
    Opn enc P W n T f ok (fun a => sz a + 1) := ⟨fun cs x hx => by
  cases n with
  | zero => simp [DataW.trod] at hx
  | succ n =>
    have hx : (if cs.length = P.cellsOf T then (fs.toList.mapM fun fl => DataW.trod enc P W 0 (fun _ => true) true n fl.type ((cs.drop fl.offset).take (P.cellsOf fl.type))).map fun xs => (DataW.agg (xs.map (·.1)), xs.flatMap (·.2)) else none) = some x := by
      unfold DataW.trod at hx
      rw [hT] at hx
      exact hx
    split at hx
    · rename_i hl
      obtain ⟨xs, hxs, hx⟩ := Option.map_eq_some_iff.1 hx
      subst hx
      obtain ⟨a, h1, h2, h3⟩ := h.go _ _ _ _ ht hl hxs
      rw [List.drop_zero] at h1
      exact ⟨a, h1, h2, by simp only [Rows.uptoBulk]; omega⟩
    · cases hx⟩
/-- An array. -/
theorem Opn.ar {n T m e : Nat} {α : Type} {f : α → List V} {ok : α → Prop} {sz : α → Nat} (hT : P.underlying T = some (.array m e)) (hc : P.cellsOf T = m * P.cellsOf e) (h : Opn enc P W (n - 1) e f ok sz) :
    Opn enc P W n T (fun l : List α => l.flatMap f) (fun l => l.length = m ∧ ∀ a ∈ l, ok a) (fun l => (l.map sz).sum + 1) := ⟨fun cs x hx => by
  cases n with
  | zero => simp [DataW.trod] at hx
  | succ n =>
    have hx : (if cs.length = P.cellsOf T then ((List.range m).mapM fun i => DataW.trod enc P W 0 (fun _ => true) true n e ((cs.drop (i * P.cellsOf e)).take (P.cellsOf e))).map fun xs => (DataW.agg (xs.map (·.1)), xs.flatMap (·.2)) else none) = some x := by
      unfold DataW.trod at hx
      rw [hT] at hx
      exact hx
    split at hx
    · rename_i hl
      obtain ⟨xs, hxs, hx⟩ := Option.map_eq_some_iff.1 hx
      subst hx
      obtain ⟨e1, e2⟩ := mapM_some hxs
      rw [List.length_range] at e1
      obtain ⟨ys, hyl, hys⟩ := list_choose (p := fun j (y : α) => (∃ b, xs[j]? = some b ∧ ok y ∧ sz y ≤ Rows.uptoBulk b.1) ∧ RO W (f y) ((cs.drop (j * P.cellsOf e)).take (P.cellsOf e))) m fun j hj => by
        obtain ⟨b, h1, h2⟩ := e2 j j (by rw [List.getElem?_range hj])
        obtain ⟨y, k1, k2, k3⟩ := h.go _ b h2
        exact ⟨y, ⟨b, h1, k2, k3⟩, k1⟩
      refine ⟨ys, ?_, ⟨hyl, fun y hy => ?_⟩, ?_⟩
      · have hrf := range_flatten (s := P.cellsOf e) (n := m) (cs := cs) (by rw [hl, hc])
        rw [← hrf, List.flatMap]
        refine RO.flatten (by simp [hyl]) fun j us ds h1 h2 => ?_
        rw [List.getElem?_map] at h1 h2
        obtain ⟨y, hy, rfl⟩ := Option.map_eq_some_iff.1 h1
        obtain ⟨i, hi, rfl⟩ := Option.map_eq_some_iff.1 h2
        have hjl : j < m := by have := (List.getElem?_eq_some_iff.1 hy).1; omega
        rw [List.getElem?_range hjl] at hi
        cases hi
        exact (hys j y hy).2
      · obtain ⟨j, hj⟩ := List.getElem?_of_mem hy
        obtain ⟨⟨b, _, h1, _⟩, _⟩ := hys j y hj
        exact h1
      · have := sum_le (f := sz) (g := fun x : DataW H × List MemPlace => Rows.uptoBulk x.1) (l := ys) (m := xs) (by omega) fun j y b hy hb => by
          obtain ⟨⟨b', hb', _, h1⟩, _⟩ := hys j y hy
          rw [hb] at hb'; cases hb'
          exact h1
        rw [sum_bulk] at this
        simp only [Rows.uptoBulk]
        omega
    · cases hx⟩
/-! ### Arguments -/
/-- A struct or an array. -/
def aggT (P : Program) (t : Nat) : Bool :=
  match P.underlying t with
  | some (.struct _) | some (.array _ _) => true
  | _ => false
theorem Opn.argA {T base : Nat} {α : Type} {f : α → List V} {ok : α → Prop} {sz : α → Nat} {v : Value} {d : DataW H} {ps : List MemPlace} (h : ∀ n, Opn enc P W n T f ok sz) (ha : aggT P T = true) (hv : Value.okWide P W .any base T v) (ht : DataW.Trod enc P W 0 (fun _ => true) true T v d ps) :
    ∃ a, Rep W allS (.a (f a)) v ∧ ok a ∧ sz a ≤ Rows.uptoBulk d := by
  obtain ⟨n, hn⟩ := ht
  obtain ⟨a, h1, h2, h3⟩ := (h n).go _ _ hn
  obtain ⟨cs, rfl⟩ : ∃ cs, v = .agg cs := by
    unfold Value.okWide at hv
    unfold aggT at ha
    split at hv
    · obtain ⟨cs, rfl, _⟩ := hv; exact ⟨cs, rfl⟩
    · obtain ⟨cs, rfl, _⟩ := hv; exact ⟨cs, rfl⟩
    · rename_i k1 k2
      split at ha
      · rename_i fs hu; exact absurd hu (k1 fs)
      · rename_i m e hu; exact absurd hu (k2 m e)
      · cases ha
  obtain ⟨l1, l2⟩ := h1.spec
  refine ⟨a, .a (by simpa [Value.cells] using l1) (fun u hu => ?_) (fun j u x hj hx => ?_), h2, h3⟩
  · obtain ⟨j, hj⟩ := List.getElem?_of_mem hu
    have hjl := (List.getElem?_eq_some_iff.1 hj).1
    have hx : (Value.cells (.agg cs)).toList[j]? = some (Value.cells (.agg cs)).toList[j] := List.getElem?_eq_getElem (by omega)
    exact (l2 j u _ hj hx).1
  · exact (l2 j u x hj (by simpa [Value.cells] using hx)).2
theorem ro_one {u : V} {cs : List Value} (h : RO W [u] cs) : ∃ c, cs = [c] ∧ Rep W allS u c := by
  match cs, h with
  | [c], h => exact ⟨c, rfl, h.1.2⟩
theorem Opn.arg1 {T base : Nat} {α : Type} {p : α → V} {ok : α → Prop} {sz : α → Nat} {v : Value} {d : DataW H} {ps : List MemPlace} (h : ∀ n, Opn enc P W n T (fun a => [p a]) ok sz) (ha : (match P.underlying T with | some .bool | some (.int _) | some .string | some (.slice _) => true | _ => false) = true) (hv : Value.okWide P W .any base T v) (ht : DataW.Trod enc P W 0 (fun _ => true) true T v d ps) :
    ∃ a, Rep W allS (p a) v ∧ ok a ∧ sz a ≤ Rows.uptoBulk d := by
  obtain ⟨n, hn⟩ := ht
  obtain ⟨a, h1, h2, h3⟩ := (h n).go _ _ hn
  have hc : v.cells = #[v] := by
    split at ha
    · rename_i hu; obtain ⟨b, rfl⟩ := okWide_bool hu hv; rfl
    · rename_i k hu; obtain ⟨b, rfl⟩ := okWide_int hu hv; rfl
    · rename_i hu; obtain ⟨b, rfl⟩ := okWide_string hu hv; rfl
    · rename_i e hu; obtain ⟨x, y, z, rfl⟩ := okWide_slice hu hv; rfl
    · cases ha
  rw [hc] at h1
  obtain ⟨c, hc', hr⟩ := ro_one h1
  simp at hc'
  subst hc'
  exact ⟨a, hr, h2, h3⟩
/-! ### Plain types -/
theorem Opn.u8 {n T : Nat} (hT : P.underlying T = some (.int .u8)) : Opn enc P W n T (fun b : UInt8 => [bK b]) (fun _ => True) (fun _ => 1) :=
  (Opn.int hT).map (fun z => UInt8.ofNat z.toNat) (fun z hz => by
    have h0 : IntKind.u8.min = 0 := rfl
    have h1 : IntKind.u8.max = 255 := rfl
    have e : (UInt8.ofNat z.toNat).toNat = z.toNat := UInt8.toNat_ofNat_of_lt (by show _ < 256; omega)
    have : ((z.toNat : Nat) : Int) = z := by omega
    simp only [bK, e, this]) (fun _ _ => trivial) fun _ _ => Nat.le_refl _
theorem Opn.u64 {n T : Nat} (hT : P.underlying T = some (.int .u64)) : Opn enc P W n T (fun b : UInt64 => [qK b]) (fun _ => True) (fun _ => 1) :=
  (Opn.int hT).map (fun z => UInt64.ofNat z.toNat) (fun z hz => by
    have h0 : IntKind.u64.min = 0 := rfl
    have h1 : IntKind.u64.max = 18446744073709551615 := rfl
    have e : (UInt64.ofNat z.toNat).toNat = z.toNat := UInt64.toNat_ofNat_of_lt (by show _ < 18446744073709551616; omega)
    have : ((z.toNat : Nat) : Int) = z := by omega
    simp only [qK, e, this]) (fun _ _ => trivial) fun _ _ => Nat.le_refl _
theorem Opn.i64 {n T : Nat} (hT : P.underlying T = some (.int .i64)) : Opn enc P W n T (fun z : Int => [.k (.int .i64 z)]) (fun z => -9223372036854775808 ≤ z ∧ z ≤ 9223372036854775807) (fun _ => 1) :=
  (Opn.int hT).map id (fun _ _ => rfl) (fun _ hz => hz) fun _ _ => Nat.le_refl _
theorem sum_map_one {α : Type} (l : List α) : (l.map fun _ => 1).sum = l.length := by induction l with
  | nil => rfl
  | cons a l ih => simp [ih]; omega
theorem flatMap_one {α : Type} (g : α → V) (l : List α) : l.flatMap (fun a => [g a]) = l.map g := by
  induction l with
  | nil => rfl
  | cons a l ih => rw [List.flatMap_cons, List.map_cons, ih]; rfl
/-- Bytes. -/
theorem Opn.bytes {n T e : Nat} (hT : P.underlying T = some (.slice e)) (hE : P.underlying e = some (.int .u8)) (hc : P.cellsOf e = 1) : Opn enc P W n T (fun l : List UInt8 => [.s none (l.map bK)]) (fun _ => True) (fun l => l.length + 1) :=
  (Opn.sl bK hT hc (by decide) (fun _ => rfl) (Opn.u8 hE)).map id (fun _ _ => rfl) (fun _ _ => trivial) fun l _ => by rw [sum_map_one]; exact Nat.le_refl _
theorem Opn.u64s {n T e : Nat} (hT : P.underlying T = some (.slice e)) (hE : P.underlying e = some (.int .u64)) (hc : P.cellsOf e = 1) : Opn enc P W n T (fun l : List UInt64 => [.s none (l.map qK)]) (fun _ => True) (fun l => l.length + 1) :=
  (Opn.sl qK hT hc (by decide) (fun _ => rfl) (Opn.u64 hE)).map id (fun _ _ => rfl) (fun _ _ => trivial) fun l _ => by rw [sum_map_one]; exact Nat.le_refl _
/-- An array of bytes, or of numbers. -/
theorem Opn.arr8 {n T e m : Nat} (hT : P.underlying T = some (.array m e)) (hE : P.underlying e = some (.int .u8)) (hc : P.cellsOf T = m * P.cellsOf e) : Opn enc P W n T (fun l : List UInt8 => l.map bK) (fun l => l.length = m) (fun l => l.length + 1) :=
  (Opn.ar hT hc (Opn.u8 hE)).map id (fun l _ => (flatMap_one bK l).symm) (fun _ h => h.1) fun l _ => by rw [sum_map_one]; exact Nat.le_refl _
theorem Opn.arr64 {n T e m : Nat} (hT : P.underlying T = some (.array m e)) (hE : P.underlying e = some (.int .u64)) (hc : P.cellsOf T = m * P.cellsOf e) : Opn enc P W n T (fun l : List UInt64 => l.map qK) (fun l => l.length = m) (fun l => l.length + 1) :=
  (Opn.ar hT hc (Opn.u64 hE)).map id (fun l _ => (flatMap_one qK l).symm) (fun _ h => h.1) fun l _ => by rw [sum_map_one]; exact Nat.le_refl _
end
end Lf
end Go.Proofs.Ytclkpjefklahfaa

/- What the given statement tells of a word, of a text. -/
namespace Go.Proofs.Ytclkpjefklahfaa
open Go.RowKit Rg Rp Go.WideShapes Go.ChangeShapes Wm Ar
namespace Lf
section
variable {H : Type} {enc : TypeId × Value → H} {W : World}
theorem opnWord (n : Nat) : Opn enc Try.prog W n 34 (fun x : Nat => (limbs x).map uK) (fun x => x < M256) (fun _ => 5) :=
  (Opn.arr64 (m := 4) (e := 32) (by kernel_rfl) (by kernel_rfl) (by kernel_rfl)).map (fun l => numOf (l.map UInt64.toNat)) (fun l h => by
    rw [limbs_num ((List.length_map _).trans h) (fun a ha => by obtain ⟨y, _, rfl⟩ := List.mem_map.1 ha; exact y.toNat_lt), List.map_map]
    rfl) (fun l h => numOf_lt ((List.length_map _).trans h) (fun a ha => by obtain ⟨y, _, rfl⟩ := List.mem_map.1 ha; exact y.toNat_lt)) (fun l h => by omega)
theorem opnStr {P : Program} {T n : Nat} (hT : P.underlying T = some .string) : Opn enc P W n T (fun l : List UInt8 => [sK l]) (fun l => l.length ≤ maxLen) (fun l => l.length + 1) :=
  (Opn.str hT).map (fun s => s.data.toList) (fun s _ => by unfold sK; rw [Array.toArray_toList]) (fun s h => by rw [Array.length_toList]; exact h) (fun s _ => by rw [Array.length_toList]; exact Nat.le_refl _)
end
end Lf
end Go.Proofs.Ytclkpjefklahfaa

/- The laws of package hex. -/
namespace Go.Proofs.Ytclkpjefklahfaa
open Go.RowKit Rg Wm Ar
set_option maxRecDepth 100000
namespace Lf
theorem cmp_neg {x y : Nat} : Wd.cmp x y < 0 ↔ x % M256 < y % M256 := by
  unfold Wd.cmp
  by_cases h : x % M256 < y % M256
  · rw [if_pos h]; exact ⟨fun _ => h, fun _ => by decide⟩
  · rw [if_neg h]
    split
    · exact ⟨fun k => by omega, fun k => absurd k h⟩
    · exact ⟨fun k => by omega, fun k => absurd k h⟩
theorem parse_no_small {s : List UInt8} : Hx.parse s = none ∨ ∃ l, Hx.parse s = some l ∧ Hx.print l = s := by
  cases h : Hx.parse s with
  | none => exact .inl rfl
  | some l => exact .inr ⟨l, rfl, Hx.print_parse h⟩
namespace Hw
theorem Parse_none (s : List UInt8) (h : Hx.parse s = none) (hl : s.length < 1000000000) : LF Try.prog 9 [sK s] (fun _ => .t [.s none [], erK 1]) none := Parse_no s h hl
set_option maxHeartbeats 2000000 in
theorem HexBack (b s : List UInt8) (hb : b.length < 100000000) (hs : s.length < 100000000) : LF Try.prog 4 [.s none (b.map bK), sK s] (fun _ => .k (.bool true)) none := by
  have c1 := alive4
  have c2 := Print b (by omega)
  have hpl := Hx.print_len b
  have c3 := Parse_some (Hx.print b) b (Hx.parse_print b) (by omega)
  have hs1 := eqS b b
  rw [decide_eq_true rfl] at hs1
  rcases parse_no_small (s := s) with h | ⟨l, h, hp⟩
  · have c4 := Parse_none s h (by omega)
    clear h
    generalize Hx.print b = x at *
    refine LFx.mk' tt Try.func4 rfl rfl rfl (by kernel_rfl) rfl rfl fun F => ?_
    exact wk trueW trueW trueW
  · have c4 := Parse_some s l h (by omega)
    have hpl2 := Hx.print_len l
    rw [hp] at hpl2
    have c5 := Print l (by omega)
    rw [hp] at c5
    have hs2 := eqS s s
    rw [decide_eq_true rfl] at hs2
    clear h hp
    generalize Hx.print b = x at *
    refine LFx.mk' tt Try.func4 rfl rfl rfl (by kernel_rfl) rfl rfl fun F => ?_
    exact wk trueW trueW trueW
set_option maxHeartbeats 2000000 in
theorem HexJoin (a b : List UInt8) (ha : a.length < 100000000) (hb : b.length < 100000000) : LF Try.prog 5 [.s none (a.map bK), .s none (b.map bK)] (fun _ => .k (.bool true)) none := by
  have c1 := alive4
  have hpa := Hx.print_len a
  have hpb := Hx.print_len b
  have hl : (a ++ b).length = a.length + b.length := List.length_append
  have c2 := Print b (by omega)
  have c3 := Print a (by omega)
  have c4 := Print (a ++ b) (by omega)
  have e2 : ((Hx.print b).drop 2).take ((Hx.print b).length - 2) = (Hx.print b).drop 2 := List.take_of_length_le (by rw [List.length_drop]; omega)
  have hs1 := eqS (Hx.print (a ++ b)) (Hx.print a ++ ((Hx.print b).drop 2).take ((Hx.print b).length - 2))
  rw [e2, ← Hx.print_app, decide_eq_true rfl] at hs1
  have hd : ((Hx.print b).drop 2).length = (Hx.print b).length - 2 := List.length_drop
  rw [Hx.print_app] at hs1 c4
  rw [← e2] at hs1 c4
  clear e2
  have hdt : (((Hx.print b).drop 2).take ((Hx.print b).length - 2)).length ≤ (Hx.print b).length := by rw [List.length_take]; omega
  generalize Hx.print b = y at *
  generalize Hx.print a = x at *
  refine LFx.mk' tt Try.func5 rfl rfl rfl (by kernel_rfl) rfl rfl fun F => ?_
  exact wk trueW trueW trueW
end Hw
end Lf
end Go.Proofs.Ytclkpjefklahfaa

/- The laws of package hex on numbers. -/
namespace Go.Proofs.Ytclkpjefklahfaa
open Go.RowKit Rg Wm Ar
set_option maxRecDepth 100000
namespace Lf
theorem wV_mod (x : Nat) : wV (x % M256) = wV x := by simp only [wV]; rw [limbs_eq (Nat.mod_mod _ _)]
theorem wV_zero : wV 0 = .a ((List.replicate 4 0).map uK) := by
  have h : limbs 0 = List.replicate 4 0 := by unfold limbs; decide
  simp only [wV]; rw [h]
theorem txt_len (d : List UInt8) : (Hx.txt d).length = d.length + 2 := by simp [Hx.txt]
namespace Hw
set_option maxHeartbeats 2000000 in
theorem HexNumberBack (a : Nat) (s : List UInt8) (hs : s.length < 100000000) : LF Try.prog 6 [wV a, sK s] (fun _ => .k (.bool true)) none := by
  have c1 := alive4
  have c2 := Number a
  have c3 := ParseNumber_some (Hx.txt (Hx.numD a)) (Hx.numD a) (Hx.parseD_num a)
  rw [Hx.numD_num, wV_mod] at c3
  have hla := limbs_len a
  have htl := txt_len (Hx.numD a)
  have hdl := Hx.numD_len a
  cases h : Hx.parseD s with
  | none =>
    have c4 := ParseNumber_no s h (by omega)
    rw [wV_zero] at c4
    clear h
    generalize Hx.txt (Hx.numD a) = x at *
    refine LFx.mk' tt Try.func6 rfl rfl rfl (by kernel_rfl) rfl rfl fun F => ?_
    exact wk trueW trueW trueW
  | some d =>
    have c4 := ParseNumber_some s d h
    have c5 := Number (Hx.num d)
    have hlb := limbs_len (Hx.num d)
    rw [(Hx.num_parseD h).2] at c5
    have hs2 := eqS s s
    rw [decide_eq_true rfl] at hs2
    clear h
    generalize Hx.txt (Hx.numD a) = x at *
    generalize Hx.num d = y at *
    refine LFx.mk' tt Try.func6 rfl rfl rfl (by kernel_rfl) rfl rfl fun F => ?_
    exact wk trueW trueW trueW
set_option maxHeartbeats 2000000 in
theorem HexOrder (a b : Nat) : LF Try.prog 7 [wV a, wV b] (fun _ => .k (.bool true)) none := by
  have c1 := alive4
  have c2 := Number a
  have c3 := Number b
  have c4 := Wo.Cmp a b
  have hla := limbs_len a
  have hlb := limbs_len b
  have htA := txt_len (Hx.numD a)
  have hdA := Hx.numD_len a
  have htB := txt_len (Hx.numD b)
  have hdB := Hx.numD_len b
  have hlt := Hx.order a b
  have hs2 := ltS (Hx.txt (Hx.numD a)) (Hx.txt (Hx.numD b))
  have hcm := @cmp_neg a b
  rw [hlt] at hcm
  clear hlt
  generalize Hx.txt (Hx.numD a) = A at *
  generalize Hx.txt (Hx.numD b) = B at *
  generalize Wd.cmp a b = z at *
  rcases Nat.lt_trichotomy A.length B.length with h | h | h
  · have hz : z < 0 := hcm.2 (.inl h)
    clear hcm
    refine LFx.mk' tt Try.func7 rfl rfl rfl (by kernel_rfl) rfl rfl fun F => ?_
    exact wk trueW trueW trueW
  · cases hbl : Op.bytesLess A B with
    | true =>
      have hz : z < 0 := hcm.2 (.inr ⟨h, hbl⟩)
      rw [hbl] at hs2
      clear hcm hbl
      refine LFx.mk' tt Try.func7 rfl rfl rfl (by kernel_rfl) rfl rfl fun F => ?_
      exact wk trueW trueW trueW
    | false =>
      have hz : ¬ z < 0 := fun k => by
        rcases hcm.1 k with k | k
        · omega
        · rw [hbl] at k; exact absurd k.2 (by decide)
      rw [hbl] at hs2
      clear hcm hbl
      refine LFx.mk' tt Try.func7 rfl rfl rfl (by kernel_rfl) rfl rfl fun F => ?_
      exact wk trueW trueW trueW
  · have hz : ¬ z < 0 := fun k => by
      rcases hcm.1 k with k | k
      · omega
      · omega
    clear hcm
    refine LFx.mk' tt Try.func7 rfl rfl rfl (by kernel_rfl) rfl rfl fun F => ?_
    exact wk trueW trueW trueW
end Hw
end Lf
end Go.Proofs.Ytclkpjefklahfaa

/- HexOrder: the law's function answers true at every input of bulk at most 1048576, and touches no old memory; from its walk to the given statement. Conditions: the statement's own bound, nothing else. -/
namespace Go.Proofs.Ytclkpjefklahfaa.lawHexOrder
open Go.ChangeShapes Go.WideShapes Go.ChangeAt Go.RowKit Rp
set_option linter.unusedVariables false

theorem own : ownKnob Try.prog.godebug = none := by kernel_rfl
theorem laid : laidOutB Try.prog = true := by kernel_rfl
theorem rd_x0 : Try.prog.readableRec 34 = true ∧ 34 < Try.prog.types.size := ⟨by kernel_rfl, of_decide_eq_true (by kernel_rfl)⟩
theorem rds : ∀ t ∈ ([34, 34] : List Nat), Try.prog.readableRec t = true ∧ t < Try.prog.types.size := by
  intro t ht
  rcases List.mem_cons.1 ht with rfl | ht
  · exact rd_x0
  rcases List.mem_cons.1 ht with rfl | ht
  · exact rd_x0
  cases ht

theorem contract (H : Type) (enc : TypeId × Value → H) (W : World) (base : Nat) (args : Array Value) (ds gs : List (DataW H)) (before : List MemPlace)
    (hval : ∀ (j : Nat) t v, Try.f7.params[j]? = some t → args[j]? = some v → Value.okWide Try.prog W .any base t v)
    (hW : DataW.Whole enc Try.prog Try.f7.params.toList Rows.hexOrderSpec.vars false W args.toList ds gs before) (hk : Rows.uptoSmall H (ds ++ gs) = true) :
    Calls Try.prog 7 args W fun e W' => ∃ v, e = .returned v ∧ Rows.hexOrderSpec.post enc Try.prog Try.f7 false true false false W args v W' := by
  have hW0 := hW
  obtain ⟨p, q, hA0, hV, rfl, hfz, hnd⟩ := hW
  have hA : DataW.TrodAll enc Try.prog W 0 (fun _ => true) true Try.f7.params.toList args.toList ds p := hA0
  rw [Try.params7] at hA hval
  obtain ⟨v0, vs0, d0, ds0, p0, q0, hargs, rfl, rfl, h0, r0⟩ := trodAll_cons hA
  obtain ⟨v1, vs1, d1, ds1, p1, q1, rfl, rfl, rfl, h1, r1⟩ := trodAll_cons r0
  obtain ⟨rfl, rfl, rfl⟩ := trodAll_nil r1
  obtain rfl : args = #[v0, v1] := by cases args; simp_all
  obtain ⟨rfl, rfl⟩ := trodVars_none hV
  have hbulk : Rows.uptoBulkAll [d0, d1] ≤ 1048576 := by simpa only [List.append_nil] using of_decide_eq_true hk
  simp only [Rows.uptoBulkAll] at hbulk
  obtain ⟨x0, hr0, hk0, hs0⟩ := Lf.Opn.argA (fun m => Lf.opnWord m) (by kernel_rfl) (hval 0 34 v0 rfl rfl) h0
  obtain ⟨x1, hr1, hk1, hs1⟩ := Lf.Opn.argA (fun m => Lf.opnWord m) (by kernel_rfl) (hval 1 34 v1 rfl rfl) h1
  refine (Lf.LF.holds (Lf.Hw.HexOrder x0 x1) W [v0, v1] ⟨hr0, hr1, trivial⟩).mono fun e W' ⟨he, hx⟩ => ⟨_, he, Fr.post_of_below laid hW0 rfl rfl (by rw [Try.params7]; exact rds) (tb := 4) rfl (by kernel_rfl) hx⟩

set_option maxRecDepth 100000 in
theorem lifted (os : Os) (started : os.Started) (H : Type) (enc : TypeId × Value → H) (F : Stop.Interp) :
    ReturnsInHanded {} Try.checked os 7 .any ((Rows.OpenSpec.upto Rows.hexOrderSpec).pre6 enc Try.prog Try.f7 Rows.hexOrderUptoRow.domain false) (((Rows.OpenSpec.upto Rows.hexOrderSpec).at F).post enc Try.prog Try.f7 false true false false) := by
  refine returnsInHanded_of_cond (C := Try.checked) (s := Rows.OpenSpec.upto Rows.hexOrderSpec) (k := Rows.uptoSmall) rfl own started (by kernel_rfl) Try.func7
    (OpenSpec.witness (enc := enc) (C := Try.checked) (s := Rows.OpenSpec.upto Rows.hexOrderSpec) (k := Rows.uptoSmall) rfl false ⟨#[], #[.agg #[.int .u64 0, .int .u64 0, .int .u64 0, .int .u64 0], .agg #[.int .u64 0, .int .u64 0, .int .u64 0, .int .u64 0]], []⟩ 8 (by kernel_rfl) (by kernel_rfl) (by kernel_rfl)
      (x := ([.agg [.lit (.int .u64 0), .lit (.int .u64 0), .lit (.int .u64 0), .lit (.int .u64 0)], .agg [.lit (.int .u64 0), .lit (.int .u64 0), .lit (.int .u64 0), .lit (.int .u64 0)]], [], [])) (by kernel_rfl) rfl (by kernel_rfl)) ?_
  intro W base args ds gs before hval hW _ hk _
  exact contract H enc W base args ds gs before hval hW hk

theorem proved : Rows.HexOrderUptoSaid :=
  OpenClaim.holds_of_cond 7 Try.f7 rfl rfl rfl rfl rfl rfl rfl ⟨rfl, rfl, rfl, rfl, rfl⟩ rfl rfl rfl rfl rfl (by kernel_rfl) Try.func7 (by kernel_rfl)
    (of_decide_eq_true (by kernel_rfl)) (by unfold Func.isWrapper; first | (rw [if_pos (by decide +kernel)]; kernel_rfl) | (rw [if_neg (by decide +kernel)]; exact ⟨rfl, rfl⟩))
    (fun os started H enc _ F => lifted os started H enc F)
end Go.Proofs.Ytclkpjefklahfaa.lawHexOrder
