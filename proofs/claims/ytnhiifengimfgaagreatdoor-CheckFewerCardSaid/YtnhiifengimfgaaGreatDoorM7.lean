import Derived.Test.YtnhiifengimfgaaGreatDoorM6
import Derived.Sort.Walk0
import Derived.Lib.SlicesS
set_option linter.all false
set_option linter.unusedVariables false
set_option linter.unusedSimpArgs false
set_option linter.unusedSectionVars false
section
set_option maxRecDepth 100000
namespace Go.Proofs.Ytnhiifengimfgaa
open Go Lv Go.Proofs Go.RowKit Go.Shelf
variable [Lk]
variable {n:Nat} {L:List tTokT}
theorem ptableP_t (h:Pt n L):Tot (ddl_parser_table.F (L,())) (Tl fun y=>True):=by
  rw [ddl_parser_table.eq];unfold ddl_parser_table.B ddl_parser_table.b
  have:=h.2.1
  refine tot_m _ (pname_t h) (fun y hy=>?_) fun _=>tlr
  refine tot_bind.2 ((ptake_t _ (by simp) (by simp) hy.1).mono fun a ha=>?_)
  refine tot_m _ (pneed_t _) (fun _ _=>?_) fun _=>tlr
  refine tot_j (fun x=>x.2.1.length=1∧x.2.2.1.length=0∧Pt 20000 x.2.2.2.1) ?_ ?_
  · refine tot_agI.2 (tot_m _ (pcolOf_t ha.1) (fun y hy=>?_) fun _=>tot_ir.2 trivial)
    exact tot_agI.2 (tot_ck.2 ⟨by simp,tot_agI.2 (tot_il.2 ⟨rfl,rfl,hy.1.le (by omega) (by omega)⟩)⟩)
  rintro ⟨a1,a2,a3,o,_⟩ ⟨h1,h2,h3⟩
  dsimp only at h1 h2 h3 ⊢
  refine tot_l (fun x=>x.2.2.2.2.1.length) (fun x=>0≤x.1∧x.1≤40∧(x.2.2.1.length:Int)=x.1∧x.2.2.2.1.length=0∧Pt 20000 x.2.2.2.2.1) ⟨by simp,by simp,by dsimp only;omega,h2,h3⟩ ?_
  rintro ⟨i,b1,b2,b3,p,_⟩ ⟨i1,i2,i3,i4,i5⟩
  dsimp only at i1 i2 i3 i4 i5 ⊢
  have:=i5.1
  refine tot_bind.2 ((ptake_t _ (by simp) (by simp) i5.own).mono fun z hz=>tot_cond.2 ⟨fun e=>?_,fun _=>?_⟩)
  · have hw:wr (i+1)=i+1:=wr_id (by omega) (by omega)
    have hz:=hz.2 e
    simp only [hw]
    refine tot_m _ (pneed_t _) (fun _ h6=>?_) fun _=>tot_ir.2 trivial
    simp at h6
    refine tot_agI.2 (tot_m _ (pcolOf_t hz.1) (fun y hy=>?_) fun _=>tot_ir.2 trivial)
    have:=hy.1.1
    refine tot_agI.2 (tot_ck.2 ⟨by simp;omega,tot_agI.2 (tot_il.2 ⟨⟨by dsimp only;omega,by dsimp only;omega,by simp;omega,i4,hy.1.le (by omega) (by omega)⟩,by dsimp only;omega⟩)⟩)
  · refine tot_mapR.2 (tot_bind.2 ((ptake_t _ (by simp) (by simp) hz.1).mono fun u hu=>?_))
    refine tot_m _ (pneed_t _) (fun _ _=>?_) fun _=>tlr
    refine tot_j (fun _=>True) ?_ fun _ _=>tot_some.2 trivial
    refine tot_l (fun x=>x.1.length) (fun x=>Pt 20000 x.1∧x.2.2.2.1.length≤40) ⟨hu.1.le (by omega) (by omega),by dsimp only;omega⟩ ?_
    rintro ⟨q,c1,c2,c3,_⟩ ⟨j1,j2⟩
    dsimp only at j1 j2 ⊢
    have:=j1.1
    refine tot_bind.2 ((ptake_t _ (by simp) (by simp) j1.own).mono fun z hz=>tot_cond.2 ⟨fun e=>?_,fun _=>tot_ir.2 trivial⟩)
    have hz:=hz.2 e
    refine tot_j (fun x=>x.1.length<q.length∧Pt 20000 x.1∧x.2.2.2.1.length≤41) ?_ ?_
    · refine tot_agI.2 (tot_m _ (pexprP_t hz.1) (fun y hy=>?_) fun _=>tot_ir.2 trivial)
      have:=hy.1
      refine tot_agI.2 (tot_ck.2 ⟨by simp;omega,tot_agI.2 (tot_il.2 ⟨by dsimp only;omega,hy.le (by omega) (by omega),by simp;omega⟩)⟩)
    · rintro ⟨r,d1,d2,d3,_⟩ ⟨k1,k2,k3⟩
      refine tot_m _ (pneed_t _) (fun _ h6=>?_) fun _=>tot_ir.2 trivial
      exact tot_il.2 ⟨⟨k2,by simp at h6;dsimp only;omega⟩,k1⟩
theorem pviewP_t (h:Pt n L):Tot (ddl_parser_view.F (L,())) (Tl fun y=>True):=by
  rw [ddl_parser_view.eq];unfold ddl_parser_view.B ddl_parser_view.b
  have:=h.2.1
  refine tot_m _ (pname_t h) (fun y hy=>?_) fun _=>tlr
  refine tot_bind.2 ((ptake_t _ (by simp) (by simp) hy.1).mono fun a ha=>tot_m _ (pneed_t _) (fun _ _=>?_) fun _=>tlr)
  refine tot_m _ (pname_t ha.1) (fun b hb=>?_) fun _=>tlr
  refine tot_j (fun x=>Pt 20000 x.1∧x.2.2.2.2.2.2.2.2.1.length=0∧x.2.2.2.2.2.2.2.2.2.1.length=0) ?_ ?_
  · refine tot_bind.2 ((ptake_t _ (by simp) (by simp) hb.1).mono fun c hc=>tot_cond.2 ⟨fun _=>?_,fun _=>tot_il.2 ⟨hc.1.le (by omega) (by omega),rfl,rfl⟩⟩)
    refine tot_m _ (pname_t hc.1) (fun d hd=>?_) fun _=>tot_ir.2 trivial
    refine tot_bind.2 ((ptake_t _ (by simp) (by simp) hd.1).mono fun e he=>tot_m _ (pneed_t _) (fun _ _=>?_) fun _=>tot_ir.2 trivial)
    refine tot_m _ (pcol_t he.1) (fun f hf=>tot_ck.2 ⟨by decide,?_⟩) fun _=>tot_ir.2 trivial
    refine tot_bind.2 ((ptake_t _ (by simp) (by simp) hf.1).mono fun e he=>tot_m _ (pneed_t _) (fun _ _=>?_) fun _=>tot_ir.2 trivial)
    refine tot_m _ (pcol_t he.1) (fun f hf=>tot_ck.2 ⟨by decide,tot_il.2 ⟨hf.1.le (by omega) (by omega),rfl,rfl⟩⟩) fun _=>tot_ir.2 trivial
  rintro ⟨o,a1,a2,a3,a4,a5,a6,a7,a8,a9,_⟩ ⟨h1,h2,h3⟩
  dsimp only at h1 h2 h3 ⊢
  refine tot_j (fun x=>Pt 20000 x.1∧x.2.2.2.2.2.2.2.2.1.length=0∧x.2.2.2.2.2.2.2.2.2.1.length=0) ?_ ?_
  · refine tot_bind.2 ((ptake_t _ (by simp) (by simp) h1).mono fun c hc=>tot_cond.2 ⟨fun _=>?_,fun _=>tot_il.2 ⟨hc.1,h2,h3⟩⟩)
    exact tot_m _ (pexprP_t hc.1) (fun d hd=>tot_il.2 ⟨hd,h2,h3⟩) fun _=>tot_ir.2 trivial
  rintro ⟨o,a1,a2,a3,a4,a5,a6,a7,a8,a9,_⟩ ⟨h1,h2,h3⟩
  dsimp only at h1 h2 h3 ⊢
  refine tot_bind.2 ((ptake_t _ (by simp) (by simp) h1).mono fun a ha=>tot_m _ (pneed_t _) (fun _ _=>?_) fun _=>tlr)
  refine tot_j (fun x=>Pt 20000 x.1∧x.2.2.2.2.2.2.2.2.2.1.length=0) ?_ ?_
  · refine tot_cond.2 ⟨fun _=>tot_bind.2 ((pis_t _ (by simp) ha.1).mono fun b hb=>?_),fun _=>tot_il.2 ⟨ha.1,h3⟩⟩
    obtain ⟨b1,b2,_⟩:=b
    dsimp only at hb ⊢
    obtain ⟨rfl,_⟩:=hb
    refine tot_cond.2 ⟨fun _=>?_,fun _=>tot_il.2 ⟨ha.1,h3⟩⟩
    refine tot_j (fun x=>x.2.2.2.2.2.2.2.1.length=1∧x.2.2.2.2.2.2.2.2.1.length=0∧Pt 20000 x.2.2.2.2.2.2.2.2.2.1) ?_ ?_
    · refine tot_agI.2 (tot_m _ (pcol_t ha.1) (fun y hy=>?_) fun _=>tot_ir.2 trivial)
      refine tot_agI.2 (tot_ck.2 ⟨by simp;omega,tot_agI.2 (tot_il.2 ⟨by dsimp only;rw [List.length_append,h2];rfl,h3,hy.1.le (by omega) (by omega)⟩)⟩)
    rintro ⟨c1,c2,c3,c4,c5,c6,c7,c8,c9,q,_⟩ ⟨k1,k2,k3⟩
    dsimp only at k1 k2 k3 ⊢
    refine tot_l (fun x=>x.2.2.2.2.2.2.2.2.2.2.1.length) (fun x=>0≤x.1∧x.1≤40∧(x.2.2.2.2.2.2.2.2.1.length:Int)=x.1∧x.2.2.2.2.2.2.2.2.2.1.length=0∧Pt 20000 x.2.2.2.2.2.2.2.2.2.2.1) ⟨by simp,by simp,by dsimp only;omega,k2,k3⟩ ?_
    rintro ⟨i,d1,d2,d3,d4,d5,d6,d7,d8,d9,r,_⟩ ⟨i1,i2,i3,i4,i5⟩
    dsimp only at i1 i2 i3 i4 i5 ⊢
    have:=i5.1
    refine tot_bind.2 ((ptake_t _ (by simp) (by simp) i5.own).mono fun z hz=>tot_cond.2 ⟨fun e=>?_,fun _=>tot_ir.2 ⟨hz.1.le (by omega) (by omega),i4⟩⟩)
    have hw:wr (i+1)=i+1:=wr_id (by omega) (by omega)
    have hz:=hz.2 e
    simp only [hw]
    refine tot_m _ (pneed_t _) (fun _ h6=>?_) fun _=>tot_ir.2 trivial
    simp at h6
    refine tot_agI.2 (tot_m _ (pcol_t hz.1) (fun y hy=>?_) fun _=>tot_ir.2 trivial)
    have:=hy.1.1
    refine tot_agI.2 (tot_ck.2 ⟨by simp;omega,tot_agI.2 (tot_il.2 ⟨⟨by dsimp only;omega,by dsimp only;omega,by simp;omega,i4,hy.1.le (by omega) (by omega)⟩,by dsimp only;omega⟩)⟩)
  rintro ⟨o,a1,a2,a3,a4,a5,a6,a7,a8,a9,_⟩ ⟨h1,h3⟩
  dsimp only at h1 h3 ⊢
  refine tot_bind.2 ((ptake_t _ (by simp) (by simp) h1).mono fun a ha=>tot_cond.2 ⟨fun _=>tot_cond.2 ⟨fun _=>?_,fun _=>tot_some.2 trivial⟩,fun _=>tot_some.2 trivial⟩)
  refine tot_j (fun x=>x.2.2.2.2.2.2.2.2.1.length=1∧Pt 20000 x.2.2.2.2.2.2.2.2.2.1) ?_ ?_
  · refine tot_m _ (pone_t _ (by simp) ha.1) (fun y hy=>?_) fun _=>tot_ir.2 trivial
    refine tot_cond.2 ⟨fun _=>tot_m _ (pcol_t hy) (fun z hz=>tot_ck.2 ⟨by simp;omega,tot_il.2 ⟨by dsimp only;rw [List.length_append,h3];rfl,hz.1.le (by omega) (by omega)⟩⟩) fun _=>tot_ir.2 trivial,fun _=>tot_ck.2 ⟨by simp;omega,tot_il.2 ⟨by dsimp only;rw [List.length_append,h3];rfl,hy⟩⟩⟩
  rintro ⟨c1,c2,c3,c4,c5,c6,c7,c8,c9,q,_⟩ ⟨k1,k3⟩
  dsimp only at k1 k3 ⊢
  refine tot_l (fun x=>x.2.2.2.2.2.2.2.2.2.2.1.length) (fun x=>0≤x.1∧x.1≤40∧(x.2.2.2.2.2.2.2.2.2.1.length:Int)=x.1∧Pt 20000 x.2.2.2.2.2.2.2.2.2.2.1) ⟨by simp,by simp,by dsimp only;omega,k3⟩ ?_
  rintro ⟨i,d1,d2,d3,d4,d5,d6,d7,d8,d9,r,_⟩ ⟨i1,i2,i3,i5⟩
  dsimp only at i1 i2 i3 i5 ⊢
  have:=i5.1
  refine tot_bind.2 ((ptake_t _ (by simp) (by simp) i5.own).mono fun z hz=>tot_cond.2 ⟨fun e=>?_,fun _=>tot_ir.2 trivial⟩)
  have hw:wr (i+1)=i+1:=wr_id (by omega) (by omega)
  have hz:=hz.2 e
  simp only [hw]
  refine tot_m _ (pneed_t _) (fun _ h6=>?_) fun _=>tot_ir.2 trivial
  simp at h6
  refine tot_m _ (pone_t _ (by simp) hz.1) (fun y hy=>?_) fun _=>tot_ir.2 trivial
  have:=hy.1
  refine tot_cond.2 ⟨fun _=>tot_m _ (pcol_t hy) (fun u hu=>?_) fun _=>tot_ir.2 trivial,fun _=>?_⟩
  · have:=hu.1.1
    exact tot_ck.2 ⟨by simp;omega,tot_il.2 ⟨⟨by dsimp only;omega,by dsimp only;omega,by simp;omega,hu.1.le (by omega) (by omega)⟩,by dsimp only;omega⟩⟩
  · exact tot_ck.2 ⟨by simp;omega,tot_il.2 ⟨⟨by dsimp only;omega,by dsimp only;omega,by simp;omega,hy.le (by omega) (by omega)⟩,by dsimp only;omega⟩⟩
theorem pParse_t (s:ByteArray) (h:s.size≤1000000000000):Tot (ddl_Parse.F (s,())) fun _=>True:=by
  rw [ddl_Parse.eq];unfold ddl_Parse.B
  refine tot_bind.2 ((lex_p s h).mono fun y hy=>tot_cond.2 ⟨fun _=>tot_some.2 trivial,fun _=>?_⟩)
  refine tot_m _ (pone_t _ (by simp) hy) (fun z hz=>?_) fun _=>tot_some.2 trivial
  refine tot_cond.2 ⟨fun _=>tot_m _ (ptableP_t hz) (fun u _=>tot_m _ (pneed_t _) (fun _ _=>tot_some.2 trivial) fun _=>tot_some.2 trivial) fun _=>tot_some.2 trivial,fun _=>tot_m _ (pviewP_t hz) (fun u _=>tot_m _ (pneed_t _) (fun _ _=>tot_some.2 trivial) fun _=>tot_some.2 trivial) fun _=>tot_some.2 trivial⟩
end Go.Proofs.Ytnhiifengimfgaa
end
section
set_option maxRecDepth 100000
namespace Go.Proofs.Ytnhiifengimfgaa
open Go Lv Go.Proofs Go.RowKit Go.Shelf
variable [Lk]
theorem eqN_t (p q:List tNodeT) (h:p.length≤1000):Tot (slices_Equal_api_Expr_api_Node.F (p,q,())) fun _=>True:=by
  rw [slices_Equal_api_Expr_api_Node.eq];unfold slices_Equal_api_Expr_api_Node.B
  refine tot_cond.2 ⟨fun _=>by simp,fun h2=>tot_r p.length fun i h0 h1=>?_⟩
  simp at h2
  simp [wr_is];omega
theorem eqC_t (p q:List tColumnT) (h:p.length≤1000):Tot (slices_Equal_sl_api_Column_api_Column.F (p,q,())) fun _=>True:=by
  rw [slices_Equal_sl_api_Column_api_Column.eq];unfold slices_Equal_sl_api_Column_api_Column.B
  refine tot_cond.2 ⟨fun _=>by simp,fun h2=>tot_r p.length fun i h0 h1=>?_⟩
  simp at h2
  simp [wr_is];omega
theorem eqI_t (p q:List Int) (h:p.length≤1000):Tot (slices_Equal_sl_int_int.F (p,q,())) fun _=>True:=by
  rw [slices_Equal_sl_int_int.eq];unfold slices_Equal_sl_int_int.B
  refine tot_cond.2 ⟨fun _=>by simp,fun h2=>tot_r p.length fun i h0 h1=>?_⟩
  simp at h2
  simp [wr_is];omega
theorem eqA_t (p q:List tAggT) (h:p.length≤1000):Tot (slices_Equal_sl_api_Agg_api_Agg.F (p,q,())) fun _=>True:=by
  rw [slices_Equal_sl_api_Agg_api_Agg.eq];unfold slices_Equal_sl_api_Agg_api_Agg.B
  refine tot_cond.2 ⟨fun _=>by simp,fun h2=>tot_r p.length fun i h0 h1=>?_⟩
  simp at h2
  simp [wr_is];omega
theorem pSame_t (d:tDefT) (h:Sd d) (q0:Int) (q1:ByteArray) (q2:List tColumnT) (q3:List (List tNodeT)) (q4 q5 q6:ByteArray) (q7 q8:Int) (q9:List tNodeT) (q10:List Int) (q11:Bool) (q12:List tAggT):
    Tot (ddl_Same.F (d.1,d.2.1.1,d.2.1.2.1,d.2.1.2.2,d.2.2.1,d.2.2.2.1,d.2.2.2.2.1,d.2.2.2.2.2.1.1,d.2.2.2.2.2.1.2,d.2.2.2.2.2.2.1,d.2.2.2.2.2.2.2.1,d.2.2.2.2.2.2.2.2.1,d.2.2.2.2.2.2.2.2.2,q0,q1,q2,q3,q4,q5,q6,q7,q8,q9,q10,q11,q12,())) fun _=>True:=by
  rw [ddl_Same.eq];unfold ddl_Same.B
  have hc:d.2.1.2.1.length≤1000:=by have:=h.s1;omega
  have he:d.2.2.2.2.2.2.1.length≤1000:=by have:=h.s4.1;omega
  have hp:d.2.2.2.2.2.2.2.1.length≤1000:=by have:=h.s5;omega
  have ha:d.2.2.2.2.2.2.2.2.2.length≤1000:=by have:=h.s6;omega
  have h2:=h.s2
  refine tot_cond.2 ⟨fun _=>?_,fun hl=>tot_r d.2.1.2.2.length fun i h0 h1=>tot_cond.2 ⟨fun h5=>?_,fun h5=>tot_mapR.2 ?_⟩⟩
  rotate_left 1
  · simp at hl h5
    have hw:wr (i+1)=i+1:=wr_id (by omega) (by omega)
    refine tot_ck.2 ⟨by simp;omega,tot_ck.2 ⟨by simp;omega,?_⟩⟩
    refine tot_j (fun _=>True) ?_ fun _ _=>tot_cond.2 ⟨fun _=>tot_mapR.2 ?_,fun _=>by simp [hw];omega⟩
    · rw [ddl_Same_1.eq];unfold ddl_Same_1.B
      refine tot_bind.2 (tot_bind.2 ((eqN_t _ _ ?_).mono fun _ _=>tot_some.2 (tot_il.2 trivial)))
      have:=(h.s3 _ (gt_mem (z:=[]) h0 h5)).1
      omega
    · refine tot_j (fun _=>True) ?_ fun _ _=>tot_j (fun _=>True) ?_ fun _ _=>?_
      all_goals repeat' first|exact tot_il.2 trivial|exact tot_some.2 trivial|refine tot_cond.2 ⟨fun _=>?_,fun _=>?_⟩|refine tot_bind.2 ((eqC_t _ _ hc).mono fun _ _=>?_)|refine tot_bind.2 ((eqN_t _ _ he).mono fun _ _=>?_)|refine tot_bind.2 ((eqI_t _ _ hp).mono fun _ _=>?_)|refine tot_bind.2 ((eqA_t _ _ ha).mono fun _ _=>?_)
  all_goals
    refine tot_j (fun _=>True) ?_ fun _ _=>tot_j (fun _=>True) ?_ fun _ _=>?_
    all_goals repeat' first|exact tot_il.2 trivial|exact tot_some.2 trivial|refine tot_cond.2 ⟨fun _=>?_,fun _=>?_⟩|refine tot_bind.2 ((eqC_t _ _ hc).mono fun _ _=>?_)|refine tot_bind.2 ((eqN_t _ _ he).mono fun _ _=>?_)|refine tot_bind.2 ((eqI_t _ _ hp).mono fun _ _=>?_)|refine tot_bind.2 ((eqA_t _ _ ha).mono fun _ _=>?_)
theorem pMay_t (d:tDefT) (h:Sd d):Tot (ddl_May.F (d.1,d.2.1.1,d.2.1.2.1,d.2.1.2.2,d.2.2.1,d.2.2.2.1,d.2.2.2.2.1,d.2.2.2.2.2.1.1,d.2.2.2.2.2.1.2,d.2.2.2.2.2.2.1,d.2.2.2.2.2.2.2.1,d.2.2.2.2.2.2.2.2.1,d.2.2.2.2.2.2.2.2.2,())) fun _=>True:=by
  rw [ddl_May.eq];unfold ddl_May.B
  rw [ddl_Print.eq];unfold ddl_Print.B
  refine tot_bind.2 (Tot.mono (P:=fun _=>True) ?_ fun _ _=>tot_some.2 trivial)
  refine tot_j (fun x=>Wd 100000 x.1) ?_ fun x hx=>?_
  · refine tot_cond.2 ⟨fun _=>tot_bind.2 ((ptable_t _ _ _ h.n1 h.s1 h.c h.s2 h.s3).mono fun y hy=>tot_il.2 hy),fun _=>tot_bind.2 ((pview_t _ _ _ _ _ _ _ _ _ h.n2 h.n3 h.n4 h.o1 h.o2 h.s4 h.s5 h.p h.s6 h.g).mono fun y hy=>tot_il.2 hy)⟩
  · refine tot_bind.2 ((join_t _ 100000 (by omega) hx 5000 (by omega) hx.2).mono fun y hy=>tot_cond.2 ⟨fun _=>tot_some.2 trivial,fun e=>?_⟩)
    simp at e
    refine tot_bind.2 ((pParse_t _ (by omega)).mono fun z _=>tot_cond.2 ⟨fun _=>tot_some.2 trivial,fun _=>?_⟩)
    exact tot_bind.2 ((pSame_t d h _ _ _ _ _ _ _ _ _ _ _ _ _).mono fun u _=>tot_cond.2 ⟨fun _=>tot_some.2 trivial,fun _=>tot_some.2 trivial⟩)
end Go.Proofs.Ytnhiifengimfgaa
end
section
set_option maxRecDepth 100000
namespace Go.Proofs.Ytnhiifengimfgaa
open Go Lv Go.Proofs Go.RowKit Go.Shelf
variable [Lk]
theorem ptakes_t (o:Int):Tot (expr_takes.F (o,())) fun y=>y.1≤2∧((o=5∨o=6)→y.1=2):=by
  rw [expr_takes.eq];unfold expr_takes.B
  refine tot_j (fun x=>x.1=true→o=0∨o=1) (by simp<;>omega) fun x hx=>tot_cond.2 ⟨fun e=>tot_some.2 ⟨by simp,fun h=>by have:=hx e;omega⟩,fun _=>?_⟩
  refine tot_j (fun x=>x.1=true→o=9∨o=10) (by simp<;>omega) fun x hx=>tot_cond.2 ⟨fun e=>tot_some.2 ⟨by simp,fun h=>by have:=hx e;omega⟩,fun _=>?_⟩
  simp
  omega
theorem ppop_t (ok:Bool) (ks st:List Int) (h:st.length≤100000):Tot (expr_stack_int_pop.F (ok,ks,st,())) fun y=>y.2.2.2.1.length≤st.length:=by
  rw [expr_stack_int_pop.eq];unfold expr_stack_int_pop.B
  refine tot_cond.2 ⟨fun _=>by simp,fun e=>?_⟩
  simp at e
  have:st.length≠0:=fun h=>e (List.length_eq_zero_iff.1 h)
  have hw:wr ((st.length:Int)-1)=(st.length:Int)-1:=wr_id (by omega) (by omega)
  simp only [hw]
  exact tot_ck.2 ⟨by simp;omega,tot_ck.2 ⟨by simp;omega,tot_some.2 (by simp)⟩⟩
theorem ppush_t (k:Int) (ok:Bool) (ks st:List Int) (h:st.length≤100000):Tot (expr_stack_int_push.F (k,ok,ks,st,())) fun y=>y.2.2.1.length=st.length+1:=by
  rw [expr_stack_int_push.eq];unfold expr_stack_int_push.B
  simp
  omega
theorem pall_t (k:Int) (l:List Int) (h:l.length≤1000):Tot (expr_all.F (k,l,())) fun _=>True:=by
  rw [expr_all.eq];unfold expr_all.B
  refine tot_r l.length fun i h0 h1=>?_
  simp [wr_is]
  omega
theorem pleaves_t (o:Int) (l:List Int) (h:l.length≤1000) (h2:(o=5∨o=6)→l.length=2):Tot (expr_leaves.F (o,l,())) fun _=>True:=by
  rw [expr_leaves.eq];unfold expr_leaves.B
  have al:∀k (b:Int),Tot (Option.bind (expr_all.F (k,l,())) fun y=>some (b,y.1,())) fun _=>True:=fun k b=>tot_bind.2 ((pall_t k l h).mono fun _ _=>tot_some.2 trivial)
  refine tot_j (fun _=>True) (by simp) fun x _=>tot_cond.2 ⟨fun _=>al _ _,fun _=>?_⟩
  refine tot_j (fun x=>x.1=true→o=5∨o=6) (by simp<;>omega) fun x hx=>tot_cond.2 ⟨fun e=>?_,fun _=>?_⟩
  · have:=h2 (hx e)
    simp
    omega
  · exact tot_cond.2 ⟨fun _=>tot_cond.2 ⟨fun _=>al _ _,fun _=>by simp⟩,fun _=>tot_cond.2 ⟨fun _=>tot_cond.2 ⟨fun _=>al _ _,fun _=>by simp⟩,fun _=>tot_cond.2 ⟨fun _=>al _ _,fun _=>by simp⟩⟩⟩
theorem ptstep_t (a b c d:Int) (s:ByteArray) (ok:Bool) (ks st:List Int) (h:st.length≤10000):Tot (expr_typer_step.F (a,b,c,d,s,ok,ks,st,())) fun y=>y.2.2.2.1.length≤st.length+1:=by
  rw [expr_typer_step.eq];unfold expr_typer_step.B
  obtain ⟨⟨t,_⟩,ht,t2,t3⟩:=ptakes_t a
  dsimp only at t2 t3
  simp only [ht,Option.bind_some]
  refine tot_j (fun x=>(x.1.length:Int)=max 0 t∧x.2.2.2.1.length≤st.length) ?_ ?_
  · refine tot_l (fun x=>t.toNat-x.1.toNat) (fun x=>0≤x.1∧x.1≤max 0 t∧(x.2.1.length:Int)=x.1∧x.2.2.2.2.1.length≤st.length) ⟨by simp,by simp;omega,by simp,by simp⟩ ?_
    rintro ⟨i,l,ok',ks',st',_⟩ ⟨i1,i2,i3,i4⟩
    dsimp only at i1 i2 i3 i4 ⊢
    refine tot_cond.2 ⟨fun h5=>?_,fun h5=>tot_ir.2 ⟨by simp at h5;dsimp only;omega,i4⟩⟩
    simp at h5
    have hw:wr (i+1)=i+1:=wr_id (by omega) (by omega)
    refine tot_bind.2 ((ppop_t _ _ _ (by omega)).mono fun y hy=>tot_ck.2 ⟨by simp;omega,?_⟩)
    simp only [tot_il,hw]
    exact ⟨⟨by omega,by omega,by simp;omega,by omega⟩,by omega⟩
  rintro ⟨l,ok',ks',st',_⟩ ⟨h1,h2⟩
  dsimp only at h1 h2 ⊢
  refine tot_j (fun x=>x.1=false→0≤t) ?_ fun x hx=>tot_cond.2 ⟨fun _=>tot_some.2 (by dsimp only;omega),fun e=>?_⟩
  · exact tot_cond.2 ⟨fun _=>tot_il.2 (fun h=>by cases h),fun _=>tot_il.2 (fun h=>by simpa using h)⟩
  have ht0:=hx e
  have psh:∀k,Tot (expr_stack_int_push.F (k,ok',ks',st',())) fun y=>y.2.2.1.length≤st.length+1:=fun k=>(ppush_t k ok' ks' st' (by omega)).mono fun y hy=>by omega
  refine tot_cond.2 ⟨fun _=>?_,fun _=>tot_cond.2 ⟨fun _=>?_,fun _=>?_⟩⟩
  · refine tot_j (fun x=>x.1=false→0≤b∧b<(ks'.length:Int)) ?_ fun x hx=>tot_cond.2 ⟨fun _=>tot_some.2 (by dsimp only;omega),fun e=>?_⟩
    · simp
      omega
    · have:=hx e
      exact tot_ck.2 ⟨by simp;omega,tot_bind.2 ((psh _).mono fun y hy=>tot_some.2 hy)⟩
  · exact tot_bind.2 ((psh _).mono fun y hy=>tot_bind.2 ((valueMay_t _ _ _).mono fun _ _=>tot_some.2 hy))
  · exact tot_bind.2 ((pleaves_t a l (by omega) (fun h=>by have:=t3 h;omega)).mono fun z _=>tot_bind.2 ((psh _).mono fun y hy=>tot_some.2 hy))
theorem ptype_t (e:List tNodeT) (ks:List Int):Tot (expr_Type.F (e,ks,())) fun _=>True:=by
  rw [expr_Type.eq];unfold expr_Type.B
  refine tot_cond.2 ⟨fun _=>by simp,fun h=>?_⟩
  simp at h
  refine tot_j (fun _=>True) ?_ fun x _=>?_
  · refine tot_l (fun x=>e.length-x.1.toNat) (fun x=>0≤x.1∧x.1≤(e.length:Int)∧(x.2.2.2.1.length:Int)≤x.1) (by simp) ?_
    rintro ⟨i,ok,k,st,_⟩ ⟨i1,i2,i3⟩
    dsimp only at i1 i2 i3 ⊢
    refine tot_cond.2 ⟨fun h5=>?_,fun h5=>tot_ir.2 trivial⟩
    simp at h5
    have hw:wr (i+1)=i+1:=wr_id (by omega) (by omega)
    refine tot_ck.2 ⟨by simp;omega,tot_bind.2 ((ptstep_t _ _ _ _ _ _ _ _ (by omega)).mono fun y hy=>tot_cond.2 ⟨fun _=>tot_ir.2 trivial,fun _=>?_⟩)⟩
    simp only [tot_il,hw]
    exact ⟨⟨by omega,by omega,by omega⟩,by omega⟩
  · rw [expr_stack_int_one.eq];unfold expr_stack_int_one.B
    refine tot_bind.2 (Tot.mono (P:=fun _=>True) ?_ fun y _=>tot_cond.2 ⟨fun _=>tot_some.2 trivial,fun _=>tot_some.2 trivial⟩)
    simp
    omega
theorem ptruth_t (e:List tNodeT) (ks:List Int):Tot (schema_truth.F (e,ks,())) fun _=>True:=by
  rw [schema_truth.eq];unfold schema_truth.B
  exact tot_bind.2 ((ptype_t e ks).mono fun y _=>tot_cond.2 ⟨fun _=>tot_cond.2 ⟨fun _=>tot_some.2 trivial,fun _=>tot_some.2 trivial⟩,fun _=>tot_some.2 trivial⟩)
theorem mul_all:(List.range 1000).all (fun n=>decide (math_bits_Mul64.B (1,(n:Int),())=some (0,(n:Int),())))=true:=by
  kernel_rfl
theorem prep_t (n:Nat) (h:n<1000):Tot (slices_Repeat_sl_bool_bool.F ([true],(n:Int),())) fun y=>y.1.length=n:=by
  rw [slices_Repeat_sl_bool_bool.eq];unfold slices_Repeat_sl_bool_bool.B
  have hm:math_bits_Mul.F ((IntKind.u64.wrap ((([true]:List Bool).length:Int))),(IntKind.u64.wrap ((n:Int))),())=some (0,(n:Int),()):=by
    have e1:IntKind.u64.wrap ((([true]:List Bool).length:Int))=1:=by decide
    have e2:IntKind.u64.wrap ((n:Int))=n:=by rw [u64w];omega
    rw [e1,e2,math_bits_Mul.eq]
    unfold math_bits_Mul.B
    have:=of_decide_eq_true (List.all_eq_true.1 mul_all n (List.mem_range.2 h))
    show Option.bind (math_bits_Mul64.F (1,(n:Int),())) _=_
    rw [math_bits_Mul64.eq,this]
    rfl
  refine tot_j (fun _=>True) (tot_cond.2 ⟨fun h=>by simp at h;omega,fun _=>tot_il.2 trivial⟩) fun _ _=>?_
  have hw:wr (n:Int)=n:=wr_id (by omega) (by omega)
  simp only [hm,Option.bind_some,hw,Int.toNat_natCast]
  refine tot_j (fun _=>True) (by simp;omega) fun _ _=>tot_ck.2 ⟨by simp;omega,?_⟩
  have hmin:∀a b:Nat,Nat.min a b=min a b:=fun _ _=>rfl
  refine tot_l (fun x=>n-x.1.toNat) (fun x=>0≤x.1∧x.1≤(n:Int)∧(1≤n→1≤x.1)∧x.2.1.length=n) (by simp [hmin];omega) ?_
  rintro ⟨i,l,_⟩ ⟨i1,i2,i3,i4⟩
  dsimp only at i1 i2 i3 i4 ⊢
  refine tot_cond.2 ⟨fun h5=>?_,fun h5=>tot_ir.2 i4⟩
  simp at h5
  simp only [hmin,Int.toNat_zero,Int.toNat_natCast,List.drop_zero,Nat.sub_zero,List.length_take,i4]
  have e:min (min i.toNat n) (n-i.toNat)=min i.toNat (n-i.toNat):=by omega
  simp only [e]
  have hw:wr (i+((min i.toNat (n-i.toNat):Nat):Int))=i+((min i.toNat (n-i.toNat):Nat):Int):=wr_id (by omega) (by omega)
  simp only [hw]
  refine tot_ck.2 ⟨by simp;omega,tot_ck.2 ⟨by simp;omega,?_⟩⟩
  simp
  omega
end Go.Proofs.Ytnhiifengimfgaa
end
section
set_option maxRecDepth 100000
namespace Go.Proofs.Ytnhiifengimfgaa
open Go Lv Go.Proofs Go.RowKit Go.Shelf
variable [Lk]
@[simp] theorem pname_s (d : tDefT) : schema_Name.F (d.1,d.2.1.1,d.2.1.2.1,d.2.1.2.2,d.2.2.1,d.2.2.2.1,d.2.2.2.2.1,d.2.2.2.2.2.1.1,d.2.2.2.2.2.1.2,d.2.2.2.2.2.2.1,d.2.2.2.2.2.2.2.1,d.2.2.2.2.2.2.2.2.1,d.2.2.2.2.2.2.2.2.2,()) = some (nmD d,()) := by
  rw [schema_Name.eq];unfold schema_Name.B nmD
  dsimp only
  cases (d.1==0)<;>rfl
theorem pfind_s (c : List tDefT) (s : ByteArray) (h : c.length < 1000000000000000) : schema_Find.F (c,s,()) = some (fndI c s,()) := by
  have:Tot (schema_Find.F (c,s,())) fun y=>y.1=fndI c s:=by
    rw [schema_Find.eq];unfold schema_Find.B
    refine tot_l (fun x=>c.length-x.1.toNat) (fun x=>∃i:Nat,x.1=(i:Int)∧i≤c.length∧∀(j:Nat) (hj:j<c.length),j<i→sq (nmD c[j]) s=false) ⟨0,rfl,by omega,fun j _ h=>by omega⟩ ?_
    rintro ⟨_,u⟩ ⟨i,rfl,h1,h2⟩
    refine tot_cond.2 ⟨fun h5=>?_,fun h5=>?_⟩
    · simp at h5
      have hw:wr ((i:Int)+1)=((i+1:Nat):Int):=by rw [wr_id (by omega) (by omega)];omega
      simp only [gt_at h5,pname_s,Option.bind_some,hw]
      refine tot_j (fun x=>x.1=sq (nmD c[i]) s) (tot_ck.2 ⟨by simp;omega,tot_il.2 rfl⟩) fun x hx=>tot_cond.2 ⟨fun h6=>?_,fun h6=>?_⟩
      · rw [hx] at h6
        simp only [tot_ir]
        have:fnd c s=some i:=List.findIdx?_eq_some_iff_getElem.2 ⟨h5,h6,fun j hj=>by rw [h2 j (by omega) hj];simp⟩
        unfold fndI
        rw [this]
      · rw [hx] at h6
        simp only [tot_il]
        refine ⟨⟨i+1,rfl,by omega,fun j hj hji=>?_⟩,by simp;omega⟩
        by_cases e:j=i
        · subst e;exact h6
        · exact h2 j hj (by omega)
    · simp at h5
      simp only [tot_ir]
      have:fnd c s=none:=List.findIdx?_eq_none_iff.2 fun x hx=>by
        obtain ⟨j,hj,rfl⟩:=List.getElem_of_mem hx
        exact h2 j hj (by omega)
      unfold fndI
      rw [this]
  obtain ⟨⟨y,_⟩,h1,h2⟩:=this
  rw [h1]
  simp at h2
  rw [h2]
theorem pjoined_t (c:List tDefT) (hc:c.length≤22) (f:TS schema_Cols.d.si→Option (TS schema_Cols.d.so)) (vn vf vw:ByteArray) (o1 o2:Int) (wh:List tNodeT) (pk:List Int) (gr:Bool) (ag:List tAggT)
    (hw:∀d∈c,wD d≤800) (hf:∀s i,fnd c s=some i→(s=vf∨s=vw∧sq vw ⟨#[]⟩=false)→∀hi:i<c.length,Tot (f (c,dA c[i])) fun y=>y.1.length=wD c[i]) (h1:∃i,fnd c vf=some i) (h2:sq vw ⟨#[]⟩=false→∃i,fnd c vw=some i):
    Tot (schema_Joined.b f (c,vn,vf,vw,o1,o2,wh,pk,gr,ag,())) fun y=>y.1.length=wJ c vf vw:=by
  unfold schema_Joined.b
  obtain ⟨i,hi⟩:=h1
  have li:=fnd_lt hi
  have hn:∀s j,fnd c s=some j→∀hj:j<c.length,wN c s=wD c[j]:=fun s j h hj=>by
    unfold wN
    rw [h]
    simp only [List.getD_eq_getElem?_getD,List.getElem?_eq_getElem hj,Option.getD_some]
  simp only [pfind_s c _ (show c.length<1000000000000000 by omega),Option.bind_some,fndI_some hi,gt_at li]
  refine tot_ck.2 ⟨by simp;omega,tot_bind.2 ((hf _ _ hi (.inl rfl) li).mono fun y hy=>?_)⟩
  have g1:=hw _ (List.getElem_mem li)
  refine tot_cond.2 ⟨fun e=>?_,fun e=>?_⟩
  · have e:sq vw ⟨#[]⟩=false:=by simpa using e
    obtain ⟨j,hj⟩:=h2 e
    have lj:=fnd_lt hj
    have g2:=hw _ (List.getElem_mem lj)
    simp only [fndI_some hj,gt_at lj]
    refine tot_ck.2 ⟨by simp;omega,tot_bind.2 ((hf _ _ hj (.inr ⟨rfl,e⟩) lj).mono fun z hz=>?_)⟩
    refine tot_ck.2 ⟨by simp;omega,?_⟩
    simp only [tot_some]
    unfold wJ
    rw [e,hn _ _ hi li,hn _ _ hj lj,cond_false]
    simp [hy,hz]
  · have e:sq vw ⟨#[]⟩=true:=by simpa using e
    simp only [tot_some]
    unfold wJ
    rw [e,hy,hn _ _ hi li,cond_true,Nat.add_zero]
theorem pcolv_t (c:List tDefT) (d:tDefT) (hk:d.1≠0) (hd:Sd d) (f:TS schema_Joined.d.si→Option (TS schema_Joined.d.so)) (hf:Tot (f (c,d.2.2.1,d.2.2.2.1,d.2.2.2.2.1,d.2.2.2.2.2.1.1,d.2.2.2.2.2.1.2,d.2.2.2.2.2.2.1,d.2.2.2.2.2.2.2.1,d.2.2.2.2.2.2.2.2.1,d.2.2.2.2.2.2.2.2.2,())) fun y=>y.1.length=wJ c d.2.2.2.1 d.2.2.2.2.1)
    (hp:∀n∈d.2.2.2.2.2.2.2.1,0≤n∧n<(wJ c d.2.2.2.1 d.2.2.2.2.1:Int)) (ha:∀a∈d.2.2.2.2.2.2.2.2.2,a.1≥2→0≤a.2∧a.2<(wJ c d.2.2.2.1 d.2.2.2.2.1:Int)):Tot (schema_Cols.b f (c,dA d)) fun y=>y.1.length=wD d:=by
  unfold schema_Cols.b
  have e:(d.1==0)=false:=by simpa using hk
  have g1:=hd.s5
  have g2:=hd.s6
  have hw:wD d=d.2.2.2.2.2.2.2.1.length+d.2.2.2.2.2.2.2.2.2.length:=by unfold wD;rw [e,cond_false]
  dsimp only [dA]
  rw [e,cond_false]
  generalize d.2.2.2.2.2.2.2.1=pk at*
  generalize d.2.2.2.2.2.2.2.2.2=ag at*
  refine tot_j (fun x=>x.1=[]) (tot_il.2 rfl) ?_
  rintro ⟨_,u⟩ rfl
  refine tot_bind.2 (hf.mono fun y hy=>?_)
  refine tot_j (fun x=>x.1.length=pk.length) ?_ ?_
  · refine tot_l (fun x=>pk.length-x.1.toNat) (fun x=>0≤x.1∧x.1≤(pk.length:Int)∧(x.2.1.length:Int)=x.1) (by simp) ?_
    rintro ⟨i,l,_⟩ ⟨i1,i2,i3⟩
    dsimp only at i1 i2 i3 ⊢
    refine tot_cond.2 ⟨fun h5=>?_,fun h5=>by simp at h5 ⊢;omega⟩
    simp at h5
    have:=hp _ (gt_mem (z:=(0:Int)) i1 h5)
    refine tot_ck.2 ⟨by simp;omega,tot_ck.2 ⟨by simp;omega,?_⟩⟩
    simp [wr_is]
    omega
  rintro ⟨l,_⟩ h1
  dsimp only at h1 ⊢
  refine tot_j (fun x=>x.1.length=wD d) ?_ fun x hx=>?_
  · refine tot_l (fun x=>ag.length-x.1.toNat) (fun x=>0≤x.1∧x.1≤(ag.length:Int)∧(x.2.1.length:Int)=pk.length+x.1) (by simp;omega) ?_
    rintro ⟨i,l,_⟩ ⟨i1,i2,i3⟩
    dsimp only at i1 i2 i3 ⊢
    refine tot_cond.2 ⟨fun h5=>?_,fun h5=>by simp at h5;simp [hw];omega⟩
    simp at h5
    have:=ha _ (gt_mem (z:=tAgg.z) i1 h5)
    refine tot_ck.2 ⟨by simp;omega,tot_cond.2 ⟨fun h6=>?_,fun h6=>tot_cond.2 ⟨fun h7=>?_,fun h7=>?_⟩⟩⟩
    · have h6:(gt ag i tAgg.z).1=2:=by simpa using h6
      have:=this (by omega)
      refine tot_ck.2 ⟨by simp;omega,?_⟩
      simp [wr_is]
      omega
    · have h7:(gt ag i tAgg.z).1=3:=by simpa using h7
      have:=this (by omega)
      refine tot_ck.2 ⟨by simp;omega,?_⟩
      simp [wr_is]
      omega
    · simp [wr_is]
      omega
  · exact tot_bind.2 ((prep_t _ (by omega)).mono fun z _=>tot_some.2 hx)
theorem pcolt_t (c:List tDefT) (d:tDefT) (hk:d.1=0) (hd:Sd d) (f:TS schema_Joined.d.si→Option (TS schema_Joined.d.so)):Tot (schema_Cols.b f (c,dA d)) fun y=>y.1.length=wD d:=by
  unfold schema_Cols.b
  have e:(d.1==0)=true:=by simpa using hk
  have hw:wD d=d.2.1.2.1.length:=by unfold wD;rw [e,cond_true]
  have:=hd.s1
  dsimp only
  rw [e,cond_true,hw]
  refine tot_j (fun _=>False) ?_ (fun _ h=>h.elim)
  refine tot_l (fun x=>d.2.1.2.1.length-x.1.toNat) (fun x=>0≤x.1∧x.1≤(d.2.1.2.1.length:Int)∧(x.2.1.length:Int)=x.1∧(x.2.2.1.length:Int)=x.1) (by simp) ?_
  rintro ⟨i,l,m,_⟩ ⟨i1,i2,i3,i4⟩
  dsimp only at i1 i2 i3 i4 ⊢
  simp [wr_is]
  omega
theorem pr_t (c : List tDefT) (h : Gc c) : ∀ (n j : Nat),j < n → (hj : j < c.length) → Tot (schema_Cols.r n (c,dA c[j])) fun y => y.1.length = wD c[j]
  |0,_,h,_=>by omega
  | n + 1,j,hn,hj => by
    have hS:=h.s _ (List.getElem_mem hj)
    show Tot (schema_Cols.b (schema_Joined.b (schema_Cols.r n)) (c,dA c[j])) _
    by_cases hk:c[j].1=0
    · exact pcolt_t c _ hk hS _
    · have g:=h.g j hj
      obtain ⟨i,hi⟩:=g.f hk
      have e:=h.wj hj hk
      refine pcolv_t c _ hk hS _ (pjoined_t c h.len _ _ _ _ _ _ _ _ _ _ (fun d hd=>wD_le (h.s d hd)) (fun s k hs hor hk'=>?_) ⟨i,(fnd_take hi).1⟩ fun e'=>?_) (by rw [←e];exact g.pk hk) (by rw [←e];exact g.ag hk)
      · have:k<j:=by
          rcases hor with rfl|⟨rfl,e'⟩
          · have:=fnd_take hi
            rw [this.1] at hs
            cases hs
            exact this.2
          · obtain ⟨m,hm⟩:=g.w hk e'
            have:=fnd_take hm
            rw [this.1] at hs
            cases hs
            exact this.2
        exact pr_t c h n k (by omega) hk'
      · obtain ⟨m,hm⟩:=g.w hk e'
        exact ⟨m,(fnd_take hm).1⟩
end Go.Proofs.Ytnhiifengimfgaa
end
section
set_option maxRecDepth 100000
namespace Go.Proofs.Ytnhiifengimfgaa
open Go Lv Go.Proofs Go.RowKit Go.Shelf
variable [Lk]
theorem ptab_t (c:List tDefT) (hc:Gc c) (n:ByteArray) (cs:List tColumnT) (es:List (List tNodeT)) (h:cs.length≤400) (h1:1≤cs.length) (he:es.length≤400):Tot (schema_table.F (c,n,cs,es,())) fun _=>True:=by
  rw [schema_table.eq];unfold schema_table.B
  have hl:=hc.len
  refine tot_bind.2 (Tot.mono (P:=fun _=>True) ?_ fun y _=>?_)
  · rw [schema_Cols.eq]
    show Tot (schema_Cols.b (schema_Joined.b (schema_Cols.r 63)) _) _
    unfold schema_Cols.b
    refine tot_j (fun _=>False) ?_ (fun _ h=>h.elim)
    refine tot_l (fun x=>cs.length-x.1.toNat) (fun x=>0≤x.1∧x.1≤(cs.length:Int)∧(x.2.1.length:Int)=x.1∧(x.2.2.1.length:Int)=x.1) (by simp) ?_
    rintro ⟨i,l,m,_⟩ ⟨i1,i2,i3,i4⟩
    dsimp only at i1 i2 i3 i4 ⊢
    simp [wr_is]
    omega
  refine tot_j (fun _=>True) ?_ fun _ _=>?_
  · refine tot_r cs.length fun i h0 h1=>tot_cond.2 ⟨fun h5=>?_,fun _=>tot_ir.2 trivial⟩
    simp at h5
    have w4:wr (i+1)=i+1:=wr_id (by omega) (by omega)
    refine tot_ck.2 ⟨by simp;omega,tot_j (fun _=>True) ?_ fun _ _=>tot_cond.2 ⟨fun _=>tot_ir.2 trivial,fun _=>by simp [w4];omega⟩⟩
    refine tot_r cs.length fun j g0 g1=>tot_cond.2 ⟨fun h6=>?_,fun _=>tot_mapR.2 ?_⟩
    · simp at h6
      have w5:wr (j+1)=j+1:=wr_id (by omega) (by omega)
      refine tot_j (fun _=>True) (tot_ck.2 ⟨by simp;omega,tot_il.2 trivial⟩) fun _ _=>tot_cond.2 ⟨fun _=>tot_mapR.2 ?_,fun _=>by simp [w5];omega⟩
      repeat' first|exact tot_il.2 trivial|refine tot_cond.2 ⟨fun _=>?_,fun _=>?_⟩
    · repeat' first|exact tot_il.2 trivial|refine tot_cond.2 ⟨fun _=>?_,fun _=>?_⟩
  refine tot_j (fun _=>True) ?_ fun _ _=>?_
  · refine tot_r cs.length fun i h0 h1'=>?_
    refine tot_cond.2 ⟨fun h5=>?_,fun _=>by simp⟩
    simp at h5
    have w4:wr (i+1)=i+1:=wr_id (by omega) (by omega)
    refine tot_ck.2 ⟨by simp;omega,tot_cond.2 ⟨fun _=>by simp [w4];omega,fun _=>?_⟩⟩
    refine tot_j (fun x=>1≤x.2.1.length) ?_ ?_
    · refine tot_cond.2 ⟨fun _=>?_,fun _=>tot_il.2 h1⟩
      simp only [pfind_s c _ (show c.length<1000000000000000 by omega),Option.bind_some]
      refine tot_cond.2 ⟨fun _=>tot_ir.2 trivial,fun hn=>?_⟩
      obtain ⟨k,hk⟩:=fndI_pos (c:=c) (by simpa using hn)
      have lk:=fnd_lt hk
      simp only [fndI_some hk,gt_at lk]
      exact tot_ck.2 ⟨by simp;omega,tot_cond.2 ⟨fun _=>tot_ir.2 trivial,fun h0=>tot_ck.2 ⟨by simp;omega,tot_il.2 ((hc.g k lk).t (by simpa using h0))⟩⟩⟩
    · rintro ⟨a,b,e,_⟩ hx
      dsimp only at hx ⊢
      refine tot_ck.2 ⟨by rw [ib_iff];omega,?_⟩
      simp [w4]
      omega
  refine tot_l (fun x=>es.length-x.1.toNat) (fun x=>0≤x.1∧x.1≤(es.length:Int)) (by simp) ?_
  rintro ⟨i,l,_⟩ ⟨i1,i2⟩
  dsimp only at i1 i2 ⊢
  refine tot_cond.2 ⟨fun h5=>?_,fun h5=>tot_mapR.2 (by simp)⟩
  simp at h5
  have w4:wr (i+1)=i+1:=wr_id (by omega) (by omega)
  refine tot_j (fun _=>True) (tot_ck.2 ⟨by simp;omega,tot_bind.2 ((ptruth_t _ _).mono fun u _=>tot_il.2 trivial)⟩) fun _ _=>tot_cond.2 ⟨fun _=>tot_mapR.2 (by simp),fun _=>by simp [w4];omega⟩
theorem pview_t' (c:List tDefT) (hc:Gc c) (vn vf vw:ByteArray) (o1 o2:Int) (wh:List tNodeT) (pk:List Int) (gr:Bool) (ag:List tAggT) (hp:pk.length≤400) (ha:ag.length≤400) (v12:(0≤o1∧o1≤99)∧0≤o2∧o2≤99) (v6:∀a∈ag,0≤a.2):
    Tot (schema_view.F (c,vn,vf,vw,o1,o2,wh,pk,gr,ag,())) fun _=>True:=by
  rw [schema_view.eq];unfold schema_view.B
  have hl:=hc.len
  obtain ⟨⟨v1,v2⟩,v3,v4⟩:=v12
  simp only [pfind_s c _ (show c.length<1000000000000000 by omega),Option.bind_some]
  refine tot_j (fun _=>(∃i,fnd c vf=some i)∧(sq vw ⟨#[]⟩=false→∃i,fnd c vw=some i)) ?_ ?_
  · refine tot_cond.2 ⟨fun _=>by simp,fun h1=>tot_cond.2 ⟨fun h2=>tot_cond.2 ⟨fun _=>by simp,fun h3=>?_⟩,fun h2=>?_⟩⟩
    · simp only [tot_il]
      exact ⟨fndI_pos (by simpa using h1),fun _=>fndI_pos (by simpa using h3)⟩
    · simp only [tot_il]
      exact ⟨fndI_pos (by simpa using h1),fun e=>by simp [e] at h2⟩
  rintro _ ⟨⟨i,hi⟩,g2⟩
  have li:=fnd_lt hi
  have hrt:∀k (hk:k<c.length),Tot (schema_Cols.r 64 (c,dA c[k])) fun y=>y.1.length=wD c[k]:=fun k hk=>pr_t c hc 64 k (by omega) hk
  simp only [fndI_some hi,gt_at li]
  refine tot_ck.2 ⟨by simp;omega,tot_bind.2 (Tot.mono (P:=fun y=>y.1.length=wD c[i]) (by rw [schema_Cols.eq];exact hrt i li) fun z hz=>?_)⟩
  refine tot_bind.2 (Tot.mono (P:=fun y=>y.1.length=wJ c vf vw) ?_ fun y hy=>?_)
  · rw [schema_Joined.eq]
    exact pjoined_t c hl _ _ _ _ _ _ _ _ _ _ (fun d hd=>wD_le (hc.s d hd)) (fun s k hs _ hk=>hrt k hk) ⟨i,hi⟩ g2
  have hwi:=wD_le (hc.s _ (List.getElem_mem li))
  have hwj:wD c[i]≤wJ c vf vw∧wJ c vf vw≤1600:=by
    have e1:wN c vf=wD c[i]:=by unfold wN;rw [hi];simp only [List.getD_eq_getElem?_getD,List.getElem?_eq_getElem li,Option.getD_some]
    unfold wJ
    rw [e1]
    refine ⟨by omega,?_⟩
    cases e:sq vw ⟨#[]⟩ with
    |true=>simp;omega
    |false=>
      obtain ⟨k,hk⟩:=g2 e
      have lk:=fnd_lt hk
      have:=wD_le (hc.s _ (List.getElem_mem lk))
      have e2:wN c vw=wD c[k]:=by unfold wN;rw [hk];simp only [List.getD_eq_getElem?_getD,List.getElem?_eq_getElem lk,Option.getD_some]
      rw [e2]
      simp
      omega
  refine tot_ck.2 ⟨by simp;omega,tot_j (fun _=>True) ?_ fun _ _=>tot_cond.2 ⟨fun _=>tot_some.2 trivial,fun _=>?_⟩⟩
  · refine tot_cond.2 ⟨fun _=>tot_ck.2 ⟨by decide,tot_cond.2 ⟨fun _=>tot_il.2 trivial,fun h1=>tot_ck.2 ⟨by decide,tot_cond.2 ⟨fun _=>tot_il.2 trivial,fun h2=>?_⟩⟩⟩⟩,fun _=>tot_il.2 trivial⟩
    simp at h1 h2
    exact tot_ck.2 ⟨by decide,tot_ck.2 ⟨by simp;omega,tot_ck.2 ⟨by decide,tot_ck.2 ⟨by simp;omega,tot_il.2 trivial⟩⟩⟩⟩
  refine tot_j (fun x=>x.1=y.1) ?_ ?_
  · refine tot_cond.2 ⟨fun _=>tot_bind.2 ((ptruth_t _ _).mono fun u _=>tot_cond.2 ⟨fun _=>by simp,fun _=>by simp⟩),fun _=>by simp⟩
  rintro ⟨l,_⟩ rfl
  dsimp only
  refine tot_j (fun _=>True) ?_ fun _ _=>?_
  · refine tot_r pk.length fun j j0 j1=>?_
    simp [wr_is]
    omega
  refine tot_j (fun _=>True) ?_ fun _ _=>?_
  · refine tot_r ag.length fun j j0 j1=>tot_cond.2 ⟨fun h5=>?_,fun _=>tot_ir.2 trivial⟩
    simp at h5
    have w4:wr (j+1)=j+1:=wr_id (by omega) (by omega)
    have:=v6 _ (gt_mem (z:=tAgg.z) j0 h5)
    refine tot_ck.2 ⟨by simp;omega,tot_j (fun _=>True) ?_ fun _ _=>tot_cond.2 ⟨fun _=>tot_ir.2 trivial,fun _=>by simp [w4];omega⟩⟩
    refine tot_cond.2 ⟨fun h=>tot_cond.2 ⟨fun _=>tot_il.2 trivial,fun h2=>tot_cond.2 ⟨fun _=>tot_ck.2 ⟨by simp at h2;simp;omega,tot_il.2 trivial⟩,fun _=>tot_il.2 trivial⟩⟩,fun h=>tot_cond.2 ⟨fun h2=>?_,fun _=>tot_il.2 trivial⟩⟩
    simp at h h2
    omega
  repeat' first|exact tot_some.2 trivial|refine tot_cond.2 ⟨fun _=>?_,fun _=>?_⟩
theorem padd_t (c:List tDefT) (hc:Gc c) (d:tDefT) (hd:Sd d) (hg:Gd c d):Tot (schema_add.F (c,d.1,d.2.1.1,d.2.1.2.1,d.2.1.2.2,d.2.2.1,d.2.2.2.1,d.2.2.2.2.1,d.2.2.2.2.2.1.1,d.2.2.2.2.2.1.2,d.2.2.2.2.2.2.1,d.2.2.2.2.2.2.2.1,d.2.2.2.2.2.2.2.2.1,d.2.2.2.2.2.2.2.2.2,())) fun _=>True:=by
  rw [schema_add.eq];unfold schema_add.B
  have hl:=hc.len
  refine tot_bind.2 ((pMay_t d hd).mono fun y _=>tot_cond.2 ⟨fun _=>tot_some.2 trivial,fun _=>tot_cond.2 ⟨fun _=>tot_some.2 trivial,fun _=>?_⟩⟩)
  simp only [pname_s,Option.bind_some,pfind_s c _ (show c.length<1000000000000000 by omega)]
  refine tot_cond.2 ⟨fun _=>tot_some.2 trivial,fun _=>tot_cond.2 ⟨fun e=>?_,fun e=>?_⟩⟩
  · exact tot_bind.2 ((ptab_t c hc _ _ _ hd.s1 (hg.t (by simpa using e)) hd.s2).mono fun _ _=>tot_some.2 trivial)
  · have e:d.1≠0:=by simpa using e
    exact tot_bind.2 ((pview_t' c hc _ _ _ _ _ _ _ _ _ hd.s5 hd.s6 (hg.o e) (hg.a0 e)).mono fun _ _=>tot_cond.2 ⟨fun _=>tot_some.2 trivial,fun _=>tot_some.2 trivial⟩)
theorem Gc.take {c:List tDefT} (h:Gc c) (i:Nat):Gc (c.take i):=⟨by have:=h.len;simp;omega,fun d hd=>h.s d (List.mem_of_mem_take hd),fun j hj=>by
  simp only [List.length_take] at hj
  have:=h.g j (by omega)
  simp only [List.getElem_take]
  rw [List.take_take,show min j i=j by omega]
  exact this⟩
theorem pmay_t (c:List tDefT) (hc:Gc c):Tot (schema_May.F (c,())) fun _=>True:=by
  rw [schema_May.eq];unfold schema_May.B
  have hl:=hc.len
  refine tot_ix c.length (fun _=>True) (fun i hi=>?_) (fun _=>by simp)
  have hw:wr ((i:Int)+1)=(i:Int)+1:=wr_id (by omega) (by omega)
  simp only [gt_at hi,Int.toNat_zero,List.drop_zero,Int.toNat_natCast,hw]
  refine tot_cond.2 ⟨fun _=>tot_ck.2 ⟨by simp;omega,tot_ck.2 ⟨by simp;omega,tot_bind.2 ((padd_t _ (hc.take i) _ (hc.s _ (List.getElem_mem hi)) (hc.g i hi)).mono fun _ _=>tot_cond.2 ⟨fun _=>tot_ir.2 trivial,fun _=>by simp⟩)⟩⟩,fun h=>by simp at h;omega⟩
end Go.Proofs.Ytnhiifengimfgaa
end
section
set_option maxRecDepth 100000
namespace Go.Proofs.Ytnhiifengimfgaa
open Go Lv Go.Proofs Go.RowKit Go.Shelf
variable [Lk]
/-! ## The order of values -/
abbrev cb:=Lib.compareBytes
theorem cb_self:∀l,cb l l=0
  | []=>rfl
  |a::r=>by simp [cb,Lib.compareBytes];exact cb_self r
theorem cb_anti:∀a b,cb a b=-cb b a
  | [],[]=>rfl
  | [],_::_=>rfl
  |_::_,[]=>rfl
  | a :: x,b :: y => by
    have ih:=cb_anti x y
    simp only [cb,Lib.compareBytes] at ih ⊢
    by_cases h1:a<b
    · have h2:¬b<a:=fun h=>absurd (UInt8.lt_trans h1 h) (UInt8.lt_irrefl a)
      simp [h1,h2]
    · by_cases h2:b<a
      · simp [h1,h2]
      · simp [h1,h2,ih]
theorem cb_val:∀a b,cb a b=-1∨cb a b=0∨cb a b=1
  | [],[]=> .inr (.inl rfl)
  | [],_::_=> .inl rfl
  |_::_,[]=> .inr (.inr rfl)
  | a :: x,b :: y => by
    have ih:=cb_val x y
    simp only [cb,Lib.compareBytes] at ih ⊢
    split
    · exact .inl rfl
    · split
      · exact .inr (.inr rfl)
      · exact ih
theorem u8v_eq {a b:UInt8} (h1:¬a<b) (h2:¬b<a):a=b:=by
  rcases UInt8.lt_or_lt_of_ne (a:=a) (b:=b)|>fun f=>Classical.em (a=b) with h|h
  · exact h
  · rcases UInt8.lt_or_lt_of_ne h with h|h
    · exact absurd h h1
    · exact absurd h h2
theorem cb_zero : ∀ a b,cb a b = 0 → a = b
  | [],[],_=>rfl
  | [],_::_,h=>by simp [cb,Lib.compareBytes] at h
  |_::_,[],h=>by simp [cb,Lib.compareBytes] at h
  | a :: x,b :: y,h => by
    simp only [cb,Lib.compareBytes] at h
    split at h
    · cases h
    · split at h
      · cases h
      · rename_i h1 h2
        rw [u8v_eq h1 h2,cb_zero x y h]
theorem cb_trans : ∀ a b c,cb a b < 0 → cb b c < 0 → cb a c < 0
  | [],[],c,h,_=>by simp [cb,Lib.compareBytes] at h
  | [],_::_,[],_,h=>by simp [cb,Lib.compareBytes] at h
  | [],_::_,_::_,_,_=>by simp [cb,Lib.compareBytes]
  |_::_,[],_,h,_=>by simp [cb,Lib.compareBytes] at h
  |_::_,_::_,[],_,h=>by simp [cb,Lib.compareBytes] at h
  | a :: x,b :: y,c :: z,h,k => by
    simp only [cb,Lib.compareBytes] at h k ⊢
    by_cases h1:a<b
    · by_cases h2:b<c
      · rw [if_pos (UInt8.lt_trans h1 h2)];decide
      · by_cases h3:c<b
        · rw [if_neg h2,if_pos h3] at k;omega
        · rw [←u8v_eq h2 h3,if_pos h1];decide
    · by_cases h4:b<a
      · rw [if_neg h1,if_pos h4] at h;omega
      · have e:=u8v_eq h1 h4
        subst e
        rw [if_neg h1,if_neg h1] at h
        by_cases h2:a<c
        · rw [if_pos h2];decide
        · by_cases h3:c<a
          · rw [if_neg h2,if_pos h3] at k;omega
          · rw [if_neg h2,if_neg h3] at k ⊢
            exact cb_trans x y z h k
theorem less_cb : ∀ a b,Op.bytesLess a b = decide (cb a b < 0)
  | [],[]=>rfl
  | [],_::_=>rfl
  |_::_,[]=>rfl
  | a :: x,b :: y => by
    have ih:=less_cb x y
    simp only [Op.bytesLess,cb,Lib.compareBytes] at ih ⊢
    by_cases h1:a<b
    · simp [h1]
    · by_cases h2:b<a
      · have:(a==b)=false:=by
          rw [beq_eq_false_iff_ne];rintro rfl;exact h1 h2
        simp [h1,h2,this]
      · have e:=u8v_eq h1 h2
        subst e
        simp [h1,ih]
def cI (a b:Int):Int:=if a<b then -1 else if a>b then 1 else 0
noncomputable def cV (x y:tValueT):Int:=if cI x.1 y.1≠0 then cI x.1 y.1 else if cI x.2.1 y.2.1≠0 then cI x.2.1 y.2.1 else cmpB x.2.2 y.2.2
theorem cI_cases (a b:Int):(a<b∧cI a b=-1)∨(a=b∧cI a b=0)∨(b<a∧cI a b=1):=by
  unfold cI
  by_cases h1:a<b
  · exact .inl ⟨h1,if_pos h1⟩
  · by_cases h2:a>b
    · exact .inr (.inr ⟨h2,by rw [if_neg h1,if_pos h2]⟩)
    · exact .inr (.inl ⟨by omega,by rw [if_neg h1,if_neg h2]⟩)
theorem cV_self (x:tValueT):cV x x=0:=by
  unfold cV
  have h1:cI x.1 x.1=0:=by simp [cI]
  have h2:cI x.2.1 x.2.1=0:=by simp [cI]
  rw [h1,h2];simp;exact cb_self _
theorem cV_anti (x y:tValueT):cV x y=-cV y x:=by
  unfold cV
  have hb:=cb_anti x.2.2.data.toList y.2.2.data.toList
  rcases cI_cases x.1 y.1 with ⟨h,e⟩|⟨h,e⟩|⟨h,e⟩<;>rcases cI_cases y.1 x.1 with ⟨g,f⟩|⟨g,f⟩|⟨g,f⟩<;>first|omega|(rw [e,f];simp;done)|skip
  rcases cI_cases x.2.1 y.2.1 with ⟨h',e'⟩|⟨h',e'⟩|⟨h',e'⟩<;>rcases cI_cases y.2.1 x.2.1 with ⟨g',f'⟩|⟨g',f'⟩|⟨g',f'⟩<;>first|omega|(rw [e,f,e',f'];simp;done)|skip
  rw [e,f,e',f'];simp;exact hb
theorem cV_zero {x y:tValueT} (h:cV x y=0):x=y:=by
  unfold cV at h
  rcases cI_cases x.1 y.1 with ⟨h1,e⟩|⟨h1,e⟩|⟨h1,e⟩<;>rw [e] at h<;>simp at h
  rcases cI_cases x.2.1 y.2.1 with ⟨h2,e'⟩|⟨h2,e'⟩|⟨h2,e'⟩<;>rw [e'] at h<;>simp at h
  have h3:=cb_zero _ _ (show cb x.2.2.data.toList y.2.2.data.toList=0 from h)
  obtain ⟨a,b,⟨⟨s⟩⟩⟩:=x
  obtain ⟨a',b',⟨⟨s'⟩⟩⟩:=y
  simp only at h1 h2 h3
  subst h1 h2 h3
  rfl
theorem cV_trans {x y z:tValueT} (h:cV x y<0) (k:cV y z<0):cV x z<0:=by
  unfold cV at h k ⊢
  have hb:=cb_trans x.2.2.data.toList y.2.2.data.toList z.2.2.data.toList
  rcases cI_cases x.1 y.1 with ⟨h1,e1⟩|⟨h1,e1⟩|⟨h1,e1⟩<;>rw [e1] at h<;>simp at h<;>rcases cI_cases y.1 z.1 with ⟨g1,f1⟩|⟨g1,f1⟩|⟨g1,f1⟩<;>rw [f1] at k<;>simp at k<;>rcases cI_cases x.1 z.1 with ⟨q1,p1⟩|⟨q1,p1⟩|⟨q1,p1⟩<;>rw [p1]<;>first|omega|skip
  all_goals simp
  rcases cI_cases x.2.1 y.2.1 with ⟨h2,e2⟩|⟨h2,e2⟩|⟨h2,e2⟩<;>rw [e2] at h<;>simp at h<;>rcases cI_cases y.2.1 z.2.1 with ⟨g2,f2⟩|⟨g2,f2⟩|⟨g2,f2⟩<;>rw [f2] at k<;>simp at k<;>rcases cI_cases x.2.1 z.2.1 with ⟨q2,p2⟩|⟨q2,p2⟩|⟨q2,p2⟩<;>rw [p2]<;>first|omega|skip
  all_goals simp
  exact hb h k
theorem cI_t (a b:Int):cmp_Compare_int.F (a,b,())=some (cI a b,()):=by
  rw [cmp_Compare_int.eq];unfold cmp_Compare_int.B
  have hn:∀n:Int,cmp_isNaN_int.F (n,())=some (false,()):=fun n=>by rw [cmp_isNaN_int.eq];unfold cmp_isNaN_int.B;simp
  simp only [hn,Option.bind_some,cond_false,cI]
  by_cases h1:a<b
  · simp [h1]
  · by_cases h2:a>b
    · simp [h1,h2]
    · simp [h1,h2]
theorem Tot.is {A:Type} {x:Option (A×Unit)} {a:A} (h:Tot x fun y=>y.1=a):x=some (a,()):=by
  obtain ⟨⟨y,_⟩,h1,h2⟩:=h
  cases h2
  exact h1
theorem or3_i (a b c:Int):cmp_Or_int.F ([a,b,c],())=some (if a≠0 then a else if b≠0 then b else c,()):=by
  refine Tot.is ?_
  rw [cmp_Or_int.eq];unfold cmp_Or_int.B
  refine tot_l (fun x=>3-x.1.toNat) (fun x=>x.1=0∨x.1=1∧a=0∨x.1=2∧a=0∧b=0∨x.1=3∧a=0∧b=0∧c=0) (.inl rfl) ?_
  rintro ⟨i,_⟩ h
  dsimp only at h ⊢
  rcases h with rfl|⟨rfl,rfl⟩|⟨rfl,rfl,rfl⟩|⟨rfl,rfl,rfl,rfl⟩
  · simp [gt,wr_is]
    exact fun h1 h2=>absurd h2 h1
  · simp [gt,wr_is]
    exact fun h1 h2=>absurd h2 h1
  · simp [gt,wr_is]
  · simp
theorem cV_t (x y:tValueT):value_Compare.F (x.1,x.2.1,x.2.2,y.1,y.2.1,y.2.2,())=some (cV x y,()):=by
  rw [value_Compare.eq];unfold value_Compare.B
  have hs:strings_Compare.F (x.2.2,y.2.2,())=some (cmpB x.2.2 y.2.2,()):=by rw [strings_Compare.eq];rfl
  dsimp only
  rw [cI_t,Option.bind_some,cI_t,Option.bind_some]
  refine (congrArg (fun z=>Option.bind z _) hs).trans ?_
  show Option.bind (cmp_Or_int.F ([cI x.1 y.1,cI x.2.1 y.2.1,cmpB x.2.2 y.2.2],())) (fun y4=>some (y4.1,()))=_
  rw [or3_i]
  rfl
/--the order of rows -/
noncomputable def kc:List tValueT→List tValueT→Int
  | [],[]=>0
  | [],_::_=>-1
  |_::_,[]=>1
  |x::a,y::b=>if cV x y≠0 then cV x y else kc a b
theorem kc_cons (x y:tValueT) (a b:List tValueT):kc (x::a) (y::b)=if cV x y≠0 then cV x y else kc a b:=by rw [kc]
theorem kc_trans : ∀ {a b c : List tValueT},kc a b < 0 → kc b c < 0 → kc a c < 0
  | [],[],_,h,_=>by simp [kc] at h
  |_::_,[],_,h,_=>by simp [kc] at h
  | [],_::_,[],_,k=>by simp [kc] at k
  | [],_::_,_::_,_,_=>by simp [kc]
  |_::_,_::_,[],_,k=>by simp [kc] at k
  | x :: a,y :: b,z :: c,h,k => by
    unfold kc at h k ⊢
    by_cases h1:cV x y=0
    · have:=cV_zero h1
      subst this
      rw [if_neg (by simpa using h1)] at h
      by_cases k1:cV x z=0
      · rw [if_neg (by simpa using k1)] at k ⊢
        exact kc_trans h k
      · rw [if_pos k1] at k ⊢
        exact k
    · rw [if_pos h1] at h
      by_cases k1:cV y z=0
      · have:=cV_zero k1
        subst this
        rw [if_pos h1]
        exact h
      · rw [if_pos k1] at k
        have:=cV_trans h k
        rw [if_pos (by omega)]
        exact this
theorem key_s (a b : List tValueT) (ha : a.length ≤ 1000) : row_Compare.F (a,b,()) = some (kc a b,()) := by
  rw [row_Compare.eq];unfold row_Compare.B
  refine Tot.is (tot_bind.2 (Tot.mono (P:=fun y=>y.1=kc a b) ?_ fun y hy=>tot_some.2 hy))
  rw [key_Compare.eq];unfold key_Compare.B
  refine tot_j (fun _=>a.length≤b.length∧kc a b=kc [] (b.drop a.length)) ?_ fun _ h=>?_
  · refine tot_l (fun x=>a.length-x.1.toNat) (fun x=>∃i:Nat,x.1=(i:Int)∧i≤a.length∧i≤b.length∧kc a b=kc (a.drop i) (b.drop i)) ⟨0,rfl,by simp,by simp,by simp⟩ ?_
    rintro ⟨_,_⟩ ⟨i,rfl,h1,h2,h3⟩
    dsimp only
    refine tot_cond.2 ⟨fun h5=>?_,fun h5=>?_⟩
    · simp at h5
      have hw:wr ((i:Int)+1)=((i+1:Nat):Int):=by rw [wr_id (by omega) (by omega)];omega
      refine tot_ck.2 ⟨by simp;omega,tot_cond.2 ⟨fun h6=>?_,fun h6=>?_⟩⟩
      · simp at h6
        refine tot_ir.2 ?_
        dsimp only
        rw [h3,show b.drop i=[] from List.drop_eq_nil_of_le (by omega),List.drop_eq_getElem_cons h5]
        rfl
      · simp at h6
        simp only [gt_at h5,gt_at h6,cV_t,Option.bind_some,hw]
        rw [List.drop_eq_getElem_cons h5,List.drop_eq_getElem_cons h6] at h3
        rw [kc_cons] at h3
        refine tot_ck.2 ⟨by simp;omega,tot_j (fun x=>x.1=cV a[i] b[i]) (tot_il.2 rfl) fun x hx=>tot_cond.2 ⟨fun e=>tot_ir.2 ?_,fun e=>tot_il.2 ⟨⟨i+1,rfl,h5,h6,?_⟩,?_⟩⟩⟩
        · rw [hx] at e
          dsimp only
          rw [h3,if_pos (by simpa using e),hx]
        · rw [hx] at e
          rw [h3,if_neg (by simpa using e)]
        · dsimp only
          omega
    · simp at h5
      have:i=a.length:=by omega
      subst this
      refine tot_ir.2 ⟨h2,?_⟩
      rw [h3,List.drop_length]
  · obtain ⟨h1,h2⟩:=h
    rw [h2]
    refine tot_cond.2 ⟨fun h5=>tot_some.2 ?_,fun h5=>tot_some.2 ?_⟩
    · simp at h5
      rw [List.drop_eq_getElem_cons h5]
      rfl
    · simp at h5
      rw [List.drop_eq_nil_of_le h5]
      rfl
end Go.Proofs.Ytnhiifengimfgaa
end
section
set_option maxRecDepth 100000
namespace Go.Proofs.Ytnhiifengimfgaa
open Go Lv Go.Proofs Go.RowKit Go.Shelf
variable [Lk]
omit [Lk] in
theorem eqV {x y:tValueT}:Ty.eq tValue x y=true↔x=y:=by
  obtain ⟨a,b,s⟩:=x
  obtain ⟨c,d,t⟩:=y
  simp [Ty.eq,MapKept.bytes_beq]
omit [Lk] in
theorem neV {x y:tValueT}:Ty.eq tValue x y=false↔x≠y:=by
  rw [←Bool.not_eq_true,eqV]
/--sources with few enough parts to be counted -/
structure Bn (b:List tSourceT):Prop where
  l:b.length<1000000000000000
  r:∀x∈b,∀r∈x.2,r.1.length<1000000000000000
/--small sources -/
structure Sb (b:List tSourceT):Prop where
  l:b.length≤6
  r:∀x∈b,x.2.length≤12
  k:∀x∈b,∀r∈x.2,r.1.length≤40
theorem short_t (l:List tValueT) (h:l.length<1000000000000000):Tot (R02_Short.F (l,())) fun y=>y.1=true→l.length≤40:=by
  rw [R02_Short.eq];unfold R02_Short.B
  refine tot_j (fun _=>True) ?_ fun _ _=>tot_some.2 fun h=>by simp at h;omega
  refine tot_r l.length fun i h0 h1=>?_
  simp [wr_is]
  omega
theorem small_t (l:List tCountT) (hl:l.length≤12) (h:∀r∈l,r.1.length<1000000000000000):Tot (R05_Small.F (l,())) fun y=>y.1=true→∀r∈l,r.1.length≤40:=by
  rw [R05_Small.eq];unfold R05_Small.B
  refine tot_j (fun _=>∀r∈l,r.1.length≤40) ?_ fun _ h=>tot_some.2 fun _=>h
  refine tot_all (l:=l) (fun r:tCountT=>r.1.length≤40) (fun i hi=>?_) (by simp)
  have hw:wr ((i:Int)+1)=(i:Int)+1:=wr_id (by omega) (by omega)
  simp only [gt_at hi,hw]
  refine tot_cond.2 ⟨fun _=>tot_ck.2 ⟨by simp;omega,tot_bind.2 ((short_t _ (h _ (List.getElem_mem hi))).mono fun y hy=>tot_cond.2 ⟨fun _=>tot_ir.2 (fun h=>by cases h),fun e=>tot_il.2 ⟨rfl,hy (by simpa using e)⟩⟩)⟩,fun h=>by simp at h;omega⟩
theorem low_t (l:List tCountT) (hl:l.length≤12) (h:∀r∈l,r.1.length<1000000000000000):Tot (R10_Low.F (l,())) fun y=>y.1=true→∀r∈l,r.1.length≤40:=by
  rw [R10_Low.eq];unfold R10_Low.B
  refine tot_j (fun _=>True) ?_ fun _ _=>tot_bind.2 ((small_t l hl h).mono fun y hy=>tot_some.2 hy)
  refine tot_r l.length fun i h0 h1=>?_
  simp [wr_is]
  omega
theorem rsmall_t (b:List tSourceT) (hb:Bn b):Tot (R12_Small.F (b,())) fun y=>y.1=true→Sb b:=by
  rw [R12_Small.eq];unfold R12_Small.B
  have hl:=hb.l
  refine tot_j (fun _=>∀x∈b,x.2.length≤12∧∀r∈x.2,r.1.length≤40) ?_ fun _ h=>tot_some.2 fun e=>⟨by simp at e;omega,fun x hx=>(h x hx).1,fun x hx=>(h x hx).2⟩
  refine tot_all (l:=b) (fun x:tSourceT=>x.2.length≤12∧∀r∈x.2,r.1.length≤40) (fun i hi=>?_) (by simp)
  have hw:wr ((i:Int)+1)=(i:Int)+1:=wr_id (by omega) (by omega)
  simp only [gt_at hi,hw]
  refine tot_cond.2 ⟨fun _=>tot_ck.2 ⟨by simp;omega,tot_cond.2 ⟨fun _=>tot_ir.2 (fun h=>by cases h),fun e=>?_⟩⟩,fun h=>by simp at h;omega⟩
  simp at e
  refine tot_ck.2 ⟨by simp;omega,tot_bind.2 ((low_t _ (by omega) (hb.r _ (List.getElem_mem hi))).mono fun y hy=>tot_cond.2 ⟨fun _=>tot_ir.2 (fun h=>by cases h),fun e'=>tot_il.2 ⟨rfl,by omega,hy (by simpa using e')⟩⟩)⟩
theorem rcmp_t (x y:tValueT):Tot (R01_Compare.F (x.1,x.2.1,x.2.2,y.1,y.2.1,y.2.2,())) fun _=>True:=by
  rw [R01_Compare.eq];unfold R01_Compare.B
  simp
theorem rcompare_t (a b:List tValueT) (h:a.length≤40):Tot (R02_Compare.F (a,b,())) fun _=>True:=by
  rw [R02_Compare.eq];unfold R02_Compare.B
  refine tot_j (fun _=>True) ?_ fun _ _=>by simp
  refine tot_r a.length fun i h0 h1=>tot_cond.2 ⟨fun h5=>tot_cond.2 ⟨fun h6=>?_,fun _=>tot_ir.2 trivial⟩,fun _=>tot_ir.2 trivial⟩
  simp at h5 h6
  refine tot_ck.2 ⟨by simp;omega,tot_ck.2 ⟨by simp;omega,tot_bind.2 ((rcmp_t _ _).mono fun y _=>?_)⟩⟩
  simp [wr_is]
  omega
theorem rrowmay_t (l:List tValueT):Tot (R04_May.F (l,())) fun _=>True:=by
  rw [R04_May.eq];unfold R04_May.B
  refine tot_cond.2 ⟨fun h=>tot_bind.2 (Tot.mono (P:=fun _=>True) ?_ fun _ _=>tot_some.2 trivial),fun _=>by simp⟩
  simp at h
  rw [R02_May.eq];unfold R02_May.B
  refine tot_r l.length fun i h0 h1=>tot_cond.2 ⟨fun h5=>?_,fun _=>tot_ir.2 trivial⟩
  simp at h5
  refine tot_ck.2 ⟨by simp;omega,tot_bind.2 ((may_t _ _ _).mono fun y _=>?_)⟩
  simp [wr_is]
  omega
theorem rbag_t (l:List tCountT) (h:l.length≤12) (hk:∀r∈l,r.1.length≤40):Tot (R05_May.F (l,())) fun _=>True:=by
  rw [R05_May.eq];unfold R05_May.B
  refine tot_r l.length fun i h0 h1=>tot_cond.2 ⟨fun h5=>?_,fun _=>tot_ir.2 trivial⟩
  simp at h5
  have w4:wr (i+1)=i+1:=wr_id (by omega) (by omega)
  have w5:wr (i-1)=i-1:=wr_id (by omega) (by omega)
  refine tot_j (fun _=>True) ?_ fun _ _=>by simp [w4];omega
  refine tot_ck.2 ⟨by simp;omega,tot_cond.2 ⟨fun _=>tot_il.2 trivial,fun _=>tot_ck.2 ⟨by simp;omega,?_⟩⟩⟩
  rw [R05_Fits.eq];unfold R05_Fits.B
  refine tot_bind.2 (Tot.mono (P:=fun _=>True) (by simp) fun y _=>tot_cond.2 ⟨fun _=>tot_il.2 trivial,fun _=>tot_ck.2 ⟨by simp;omega,tot_bind.2 ((rrowmay_t _).mono fun z _=>tot_cond.2 ⟨fun _=>tot_il.2 trivial,fun _=>tot_cond.2 ⟨fun h6=>?_,fun _=>tot_il.2 trivial⟩⟩)⟩⟩)
  simp at h6
  simp only [w5]
  have:=hk _ (gt_mem (z:=tCount.z) (i:=i-1) (by omega) (by omega))
  exact tot_ck.2 ⟨by simp;omega,tot_ck.2 ⟨by simp;omega,tot_bind.2 ((rcompare_t _ _ this).mono fun _ _=>tot_il.2 trivial)⟩⟩
/--the tables of a catalog -/
def tabs (c:List tDefT):List tTableT:=(c.filter fun d=>d.1==0).map fun d=>d.2.1
omit [Lk] in
theorem tabs_take {c:List tDefT} {i:Nat} (h:i<c.length):tabs (c.take (i+1))=tabs (c.take i)++(bif c[i].1==0 then [c[i].2.1] else []):=by
  unfold tabs
  rw [←List.take_append_getElem h,List.filter_append,List.map_append]
  cases e:(c[i].1==0)<;>simp [e]
omit [Lk] in
theorem tabs_len (c:List tDefT):(tabs c).length≤c.length:=by
  unfold tabs
  rw [List.length_map]
  exact List.length_filter_le _ _
theorem rtabs_s (c:List tDefT) (h:c.length≤1000):R17_Tables.F (c,())=some (tabs c,()):=by
  refine Tot.is ?_
  rw [R17_Tables.eq];unfold R17_Tables.B
  refine tot_l (fun x=>c.length-x.1.toNat) (fun x=>∃i:Nat,x.1=(i:Int)∧i≤c.length∧x.2.1=tabs (c.take i)) ⟨0,rfl,by omega,rfl⟩ ?_
  rintro ⟨_,o,_⟩ ⟨i,rfl,h1,h2⟩
  dsimp only at h2 ⊢
  subst h2
  have hl:=tabs_len (c.take i)
  simp only [List.length_take] at hl
  refine tot_cond.2 ⟨fun h5=>?_,fun h5=>tot_ir.2 ?_⟩
  · simp at h5
    have hw:wr ((i:Int)+1)=((i+1:Nat):Int):=by rw [wr_id (by omega) (by omega)];omega
    simp only [gt_at h5,hw]
    refine tot_ck.2 ⟨by simp;omega,tot_cond.2 ⟨fun e=>tot_ck.2 ⟨by simp;omega,tot_ck.2 ⟨by simp;omega,tot_il.2 ⟨⟨i+1,rfl,h5,?_⟩,by dsimp only;omega⟩⟩⟩,fun e=>tot_il.2 ⟨⟨i+1,rfl,h5,?_⟩,by dsimp only;omega⟩⟩⟩
    · rw [tabs_take h5,e,cond_true]
    · rw [tabs_take h5,e,cond_false,List.append_nil]
  · simp at h5
    rw [List.take_of_length_le (by omega)]
theorem ptabs_s (c:List tDefT) (h:c.length≤1000):closure_tables.F (c,())=some (tabs c,()):=by
  refine Tot.is ?_
  rw [closure_tables.eq];unfold closure_tables.B
  refine tot_l (fun x=>c.length-x.1.toNat) (fun x=>∃i:Nat,x.1=(i:Int)∧i≤c.length∧x.2.1=tabs (c.take i)) ⟨0,rfl,by omega,rfl⟩ ?_
  rintro ⟨_,o,_⟩ ⟨i,rfl,h1,h2⟩
  dsimp only at h2 ⊢
  subst h2
  have hl:=tabs_len (c.take i)
  simp only [List.length_take] at hl
  refine tot_cond.2 ⟨fun h5=>?_,fun h5=>tot_ir.2 ?_⟩
  · simp at h5
    have hw:wr ((i:Int)+1)=((i+1:Nat):Int):=by rw [wr_id (by omega) (by omega)];omega
    simp only [gt_at h5,hw]
    refine tot_ck.2 ⟨by simp;omega,tot_cond.2 ⟨fun e=>tot_ck.2 ⟨by simp;omega,tot_il.2 ⟨⟨i+1,rfl,h5,?_⟩,by dsimp only;omega⟩⟩,fun e=>tot_il.2 ⟨⟨i+1,rfl,h5,?_⟩,by dsimp only;omega⟩⟩⟩
    · rw [tabs_take h5,e,cond_true]
    · rw [tabs_take h5,e,cond_false,List.append_nil]
  · simp at h5
    rw [List.take_of_length_le (by omega)]
/--a row's first value -/
abbrev fst0 (l:List tValueT):tValueT:=List.getD l 0 tValue.z
/--rows as a table's must be -/
structure Rw (n:Nat) (l:List tCountT):Prop where
  e:∀r∈l,r.2=1∧r.1.length=n
  d:l.Pairwise fun q r=>fst0 q.1≠fst0 r.1
theorem rrows_t (n : ByteArray) (cs : List tColumnT) (es : List (List tNodeT)) (l : List tCountT) (h1 : 1 ≤ cs.length) (h : l.length ≤ 12) : Tot (R17_rows.F (n,cs,es,l,())) fun y => y.1 = true → Rw cs.length l := by
  rw [R17_rows.eq];unfold R17_rows.B
  refine tot_l (fun x=>l.length-x.1.toNat) (fun x=>∃i:Nat,x.1=(i:Int)∧i≤l.length∧(∀(j:Nat) (hj:j<l.length),j<i→l[j].2=1∧l[j].1.length=cs.length)∧∀(j k:Nat) (hk:k<l.length) (hj:j<k),k<i→fst0 l[j].1≠fst0 l[k].1) ⟨0,rfl,by omega,fun _ _ h=>by omega,fun _ _ _ _ h=>by omega⟩ ?_
  rintro ⟨_,_⟩ ⟨i,rfl,i1,i2,i3⟩
  dsimp only
  refine tot_cond.2 ⟨fun h5=>?_,fun h5=>tot_ir.2 fun _=>?_⟩
  · simp at h5
    have hw:wr ((i:Int)+1)=((i+1:Nat):Int):=by rw [wr_id (by omega) (by omega)];omega
    simp only [gt_at h5,hw]
    refine tot_j (fun _=>(l[i].2=1∧l[i].1.length=cs.length)∧∀(j:Nat) (hj:j<i),fst0 l[j].1≠fst0 l[i].1) ?_ fun _ hq=>tot_il.2 ⟨⟨i+1,rfl,h5,fun j hj hji=>?_,fun j k hk hjk hki=>?_⟩,by dsimp only;omega⟩
    · refine tot_j (fun _=>l[i].2=1∧l[i].1.length=cs.length) ?_ fun _ hr=>?_
      · refine tot_ck.2 ⟨by simp;omega,tot_cond.2 ⟨fun _=>tot_ir.2 (fun h=>by cases h),fun e=>tot_ck.2 ⟨by simp;omega,tot_cond.2 ⟨fun _=>tot_ir.2 (fun h=>by cases h),fun e2=>tot_il.2 ⟨by simpa using e,by simp at e2;omega⟩⟩⟩⟩⟩
      · refine tot_ck.2 ⟨by simp;omega,tot_ck.2 ⟨by rw [ib_iff];omega,tot_cond.2 ⟨fun _=>tot_ir.2 (fun h=>by cases h),fun _=>?_⟩⟩⟩
        refine tot_ix i (fun j=>∀h:j<l.length,fst0 l[j].1≠fst0 l[i].1) (fun j hj=>?_) (fun hq=>?_)
        · have hw:wr ((j:Int)+1)=(j:Int)+1:=wr_id (by omega) (by omega)
          have hj':j<l.length:=by omega
          have:=i2 j hj' hj
          simp only [gt_at hj',hw]
          refine tot_cond.2 ⟨fun _=>tot_ck.2 ⟨by simp;omega,tot_ck.2 ⟨by rw [ib_iff];omega,tot_ck.2 ⟨by simp;omega,tot_ck.2 ⟨by rw [ib_iff];omega,tot_cond.2 ⟨fun _=>tot_ir.2 (fun h=>by cases h),fun e=>tot_il.2 ⟨rfl,fun _=>neV.1 e⟩⟩⟩⟩⟩⟩,fun h=>by simp at h;omega⟩
        · refine tot_cond.2 ⟨fun h=>by simp at h,fun _=>tot_ir.2 ⟨hr,fun j hj=>hq j hj (by omega)⟩⟩
    · by_cases e:j=i
      · subst e;exact hq.1
      · exact i2 j hj (by omega)
    · by_cases e:k=i
      · subst e;exact hq.2 j hjk
      · exact i3 j k hk hjk (by omega)
  · simp at h5
    refine ⟨fun r hr=>?_,List.pairwise_iff_getElem.2 fun j k hj hk hjk=>i3 j k hk hjk (by omega)⟩
    obtain ⟨j,hj,rfl⟩:=List.getElem_of_mem hr
    exact i2 j hj (by omega)
end Go.Proofs.Ytnhiifengimfgaa
end
section
set_option maxRecDepth 100000
namespace Go.Proofs.Ytnhiifengimfgaa
open Go Lv Go.Proofs Go.RowKit Go.Shelf
variable [Lk]
omit [Lk] in
theorem sq_iff {a b:ByteArray}:sq a b=true↔a=b:=Lib.bytes_beq_iff a b
omit [Lk] in
theorem sq_no {a b:ByteArray}:sq a b=false↔a≠b:=Lib.bytes_beq_false_iff a b
/--sources of a catalog's tables -/
structure Gb (c:List tDefT) (b:List tSourceT):Prop where
  n:b.length=(tabs c).length
  m:∀(i:Nat) (h:i<b.length) (h':i<(tabs c).length),b[i].1=(tabs c)[i].1∧Rw (tabs c)[i].2.1.length b[i].2
omit [Lk] in
theorem tab_mem {c:List tDefT} {t:tTableT} (h:t∈tabs c):∃d∈c,d.1=0∧d.2.1=t:=by
  unfold tabs at h
  obtain ⟨d,hd,e⟩:=List.mem_map.1 h
  obtain ⟨h1,h2⟩:=List.mem_filter.1 hd
  exact ⟨d,h1,by simpa using h2,e⟩
theorem tabl_ok {c:List tDefT} (hc:Gc c) {t:tTableT} (h:t∈tabs c):1≤t.2.1.length∧t.2.1.length≤400∧t.2.2.length≤400∧∀e∈t.2.2,Ex e:=by
  obtain ⟨d,hd,h0,rfl⟩:=tab_mem h
  have hs:=hc.s d hd
  obtain ⟨j,hj,rfl⟩:=List.getElem_of_mem hd
  exact ⟨(hc.g j hj).t h0,hs.s1,hs.s2,hs.s3⟩
theorem tab_nm {c:List tDefT} (hc:Gc c):(tabs c).Pairwise fun s t=>s.1≠t.1:=by
  have h1:c.Pairwise fun d e=>nmD d≠nmD e:=List.pairwise_iff_getElem.2 fun j k hj hk hjk=>by
    have:=(hc.g k hk).nm
    have:=List.findIdx?_eq_none_iff.1 this c[j] (List.mem_take_iff_getElem.2 ⟨j,by omega,rfl⟩)
    exact sq_no.1 this
  unfold tabs
  refine List.pairwise_map.2 ((h1.filter _).imp_of_mem ?_)
  intro d e hd he h
  have d0:=(List.mem_filter.1 hd).2
  have e0:=(List.mem_filter.1 he).2
  unfold nmD at h
  simp only [d0,e0,cond_true] at h
  exact h
theorem rmay17_t (c:List tDefT) (hl:c.length≤22) (hs:∀d∈c,Sd d) (b:List tSourceT) (hb:Sb b):Tot (R17_May.F (c,b,())) fun y=>y.1=true→Gc c∧Gb c b:=by
  rw [R17_May.eq];unfold R17_May.B
  refine tot_bind.2 ((rmay_t c hl hs).mono fun y hy=>tot_cond.2 ⟨fun _=>tot_some.2 (fun h=>by cases h),fun e=>?_⟩)
  have hc:=hy (by simpa using e)
  simp only [rtabs_s c (by omega),Option.bind_some]
  have hbl:=hb.l
  refine tot_cond.2 ⟨fun _=>tot_some.2 (fun h=>by cases h),fun e=>?_⟩
  have hn:(tabs c).length=b.length:=by simp at e;omega
  refine tot_ix (tabs c).length (fun i=>∀(h:i<b.length) (h':i<(tabs c).length),b[i].1=(tabs c)[i].1∧Rw (tabs c)[i].2.1.length b[i].2) (fun i hi=>?_) (fun h=>?_)
  · have hi':i<b.length:=by omega
    have hw:wr ((i:Int)+1)=(i:Int)+1:=wr_id (by omega) (by omega)
    have g1:gt b (i:Int) tSource.z=b[i]:=gt_at hi' _
    have g2:List.getD (tabs c) (Int.toNat (i:Int)) tTable.z=(tabs c)[i]:=gt_at hi _
    simp only [g1,g2,hw]
    have hm:=List.getElem_mem hi'
    have ht:=tabl_ok hc (List.getElem_mem hi)
    refine tot_cond.2 ⟨fun _=>tot_ck.2 ⟨by simp;omega,tot_ck.2 ⟨by simp;omega,tot_cond.2 ⟨fun _=>tot_ir.2 (fun h=>by cases h),fun e=>tot_ck.2 ⟨by simp;omega,?_⟩⟩⟩⟩,fun h=>by simp at h;omega⟩
    refine tot_bind.2 ((rbag_t _ (hb.r _ hm) (hb.k _ hm)).mono fun y _=>tot_cond.2 ⟨fun _=>tot_ir.2 (fun h=>by cases h),fun _=>tot_ck.2 ⟨by simp;omega,tot_ck.2 ⟨by simp;omega,?_⟩⟩⟩)
    exact tot_bind.2 ((rrows_t _ _ _ _ ht.1 (hb.r _ hm)).mono fun z hz=>tot_cond.2 ⟨fun _=>tot_ir.2 (fun h=>by cases h),fun e'=>tot_il.2 ⟨rfl,fun _ _=>⟨sq_iff.1 (by simpa using e),hz (by simpa using e')⟩⟩⟩)
  · exact tot_cond.2 ⟨fun h=>by simp at h,fun _=>tot_ir.2 fun _=>⟨hc,hn.symm,fun i h1 h2=>h i h2 h1 h2⟩⟩
/--the rows found by a name -/
def fl (b:List tSourceT) (s:ByteArray):List tCountT:=match b.find? fun x=>sq x.1 s with
  |some x=>x.2
  |none=> []
omit [Lk] in
theorem fl_in (b:List tSourceT) (s:ByteArray):fl b s=[]∨∃x∈b,x.1=s∧fl b s=x.2:=by
  unfold fl
  cases h:b.find? fun x=>sq x.1 s with
  |none=>exact .inl rfl
  |some x=>exact .inr ⟨x,List.mem_of_find?_eq_some h,sq_iff.1 (by have:=List.find?_some h;exact this),rfl⟩
omit [Lk] in
theorem fl_some {b:List tSourceT} {s:ByteArray} {i:Nat} (h:i<b.length) (h1:b[i].1=s) (h2:∀(j:Nat) (hj:j<i),b[j].1≠s):fl b s=b[i].2:=by
  unfold fl
  have:(b.find? fun x=>sq x.1 s)=some b[i]:=List.find?_eq_some_iff_getElem.2 ⟨sq_iff.2 h1,i,h,rfl,fun j hj=>by rw [sq_no.2 (h2 j hj)];rfl⟩
  rw [this]
omit [Lk] in
theorem fl_none {b:List tSourceT} {s:ByteArray} (h:∀x∈b,x.1≠s):fl b s=[]:=by
  unfold fl
  have:(b.find? fun x=>sq x.1 s)=none:=List.find?_eq_none.2 fun x hx=>by rw [sq_no.2 (h x hx)];simp
  rw [this]
theorem rfind_s (b:List tSourceT) (s:ByteArray) (hb:b.length≤1000):R12_Find.F (b,s,())=some (fl b s,()):=by
  refine Tot.is ?_
  rw [R12_Find.eq];unfold R12_Find.B
  refine tot_l (fun x=>b.length-x.1.toNat) (fun x=>∃i:Nat,x.1=(i:Int)∧i≤b.length∧∀(j:Nat) (hj:j<b.length),j<i→b[j].1≠s) ⟨0,rfl,by omega,fun j _ h=>by omega⟩ ?_
  rintro ⟨_,u⟩ ⟨i,rfl,h1,h2⟩
  dsimp only
  refine tot_cond.2 ⟨fun h5=>?_,fun h5=>tot_ir.2 ?_⟩
  · simp at h5
    have hw:wr ((i:Int)+1)=((i+1:Nat):Int):=by rw [wr_id (by omega) (by omega)];omega
    simp only [gt_at h5,hw]
    refine tot_ck.2 ⟨by simp;omega,tot_cond.2 ⟨fun e=>tot_ck.2 ⟨by simp;omega,tot_ir.2 ?_⟩,fun e=>tot_il.2 ⟨⟨i+1,rfl,h5,fun j hj hji=>?_⟩,by dsimp only;omega⟩⟩⟩
    · exact (fl_some h5 (sq_iff.1 e) fun j hj=>h2 j (by omega) hj).symm
    · by_cases ej:j=i
      · subst ej;exact sq_no.1 e
      · exact h2 j hj (by omega)
  · simp at h5
    exact (fl_none fun x hx=>by
      obtain ⟨j,hj,rfl⟩:=List.getElem_of_mem hx
      exact h2 j hj (by omega)).symm
theorem look_s (b:List tSourceT) (s:ByteArray) (hb:b.length≤1000):view_Look.F (b,s,())=some (fl b s,()):=by
  refine Tot.is ?_
  rw [view_Look.eq];unfold view_Look.B
  refine tot_l (fun x=>b.length-x.1.toNat) (fun x=>∃i:Nat,x.1=(i:Int)∧i≤b.length∧∀(j:Nat) (hj:j<b.length),j<i→b[j].1≠s) ⟨0,rfl,by omega,fun j _ h=>by omega⟩ ?_
  rintro ⟨_,u⟩ ⟨i,rfl,h1,h2⟩
  dsimp only
  refine tot_cond.2 ⟨fun h5=>?_,fun h5=>tot_mapR.2 (tot_cond.2 ⟨fun _=>tot_some.2 ?_,fun h=>by simp at h⟩)⟩
  · simp at h5
    have hw:wr ((i:Int)+1)=((i+1:Nat):Int):=by rw [wr_id (by omega) (by omega)];omega
    simp only [gt_at h5,hw]
    refine tot_j (fun x=>x.1=sq b[i].1 s) (tot_ck.2 ⟨by simp;omega,tot_il.2 rfl⟩) fun x hx=>tot_cond.2 ⟨fun e=>tot_mapR.2 (tot_cond.2 ⟨fun h=>by simp at h;omega,fun _=>tot_ck.2 ⟨by simp;omega,tot_some.2 ?_⟩⟩),fun e=>tot_il.2 ⟨⟨i+1,rfl,h5,fun j hj hji=>?_⟩,by dsimp only;omega⟩⟩
    · rw [hx] at e
      exact (fl_some h5 (sq_iff.1 e) fun j hj=>h2 j (by omega) hj).symm
    · rw [hx] at e
      by_cases ej:j=i
      · subst ej;exact sq_no.1 e
      · exact h2 j hj (by omega)
  · simp at h5
    exact (fl_none fun x hx=>by
      obtain ⟨j,hj,rfl⟩:=List.getElem_of_mem hx
      exact h2 j hj (by omega)).symm
theorem fl_tab {c:List tDefT} {b:List tSourceT} (hc:Gc c) (hb:Gb c b) {i:Nat} (h:i<(tabs c).length):fl b (tabs c)[i].1=(b[i]'(by rw [hb.n];exact h)).2:=by
  have h':i<b.length:=by rw [hb.n];exact h
  refine fl_some h' (hb.m i h' h).1 fun j hj=>?_
  rw [(hb.m j (by omega) (by omega)).1]
  exact List.pairwise_iff_getElem.1 (tab_nm hc) j i (by omega) h hj
end Go.Proofs.Ytnhiifengimfgaa
end
section
set_option maxRecDepth 100000
namespace Go.Proofs.Ytnhiifengimfgaa
open Go Lv Go.Proofs Go.RowKit Go.Shelf
variable [Lk]
def Yes (x:Option (Bool×Unit)):Prop:=x=some (true,())
omit [Lk] in
theorem yes_iff {x:Option (Bool×Unit)} {b:Bool} {u:Unit} (h:x=some (b,u)):Yes x↔b=true:=by
  subst h
  simp [Yes]
theorem fits_t (n:Int):Tot (bag_fits.F (n,())) fun _=>True:=by
  rw [bag_fits.eq];unfold bag_fits.B
  simp
theorem prow_t (l:List tValueT):Tot (row_May.F (l,())) fun _=>True:=by
  rw [row_May.eq];unfold row_May.B
  refine tot_cond.2 ⟨fun h=>?_,fun _=>by simp⟩
  simp at h
  refine tot_r l.length fun i h0 h1=>tot_cond.2 ⟨fun h5=>?_,fun _=>tot_ir.2 trivial⟩
  simp at h5
  have w4:wr (i+1)=i+1:=wr_id (by omega) (by omega)
  refine tot_j (fun _=>True) ?_ fun _ _=>tot_cond.2 ⟨fun _=>tot_ir.2 trivial,fun _=>by simp [w4];omega⟩
  refine tot_ck.2 ⟨by simp;omega,?_⟩
  rw [row_May_1.eq];unfold row_May_1.B
  exact tot_bind.2 (tot_bind.2 ((valueMay_t _ _ _).mono fun y _=>tot_some.2 (tot_il.2 trivial)))
/--a row that a bag may hold -/
def Rk (r:tCountT):Prop:=r.2≠0∧Yes (bag_fits.F (r.2,()))∧Yes (row_May.F (r.1,()))
/--rows that may be a bag -/
def Bk (l:List tCountT):Prop:=∀(i:Nat) (h:i<l.length),Rk l[i]∧∀(h0:0<i) (h1:i-1<l.length),kc l[i-1].1 l[i].1<0
theorem bag_t (l : List tCountT) (hl : l.length ≤ 12) (hk : ∀ r ∈ l,r.1.length ≤ 40) : Tot (bag_May.F (l,())) fun y => y.1 = true ↔ Bk l := by
  rw [bag_May.eq];unfold bag_May.B
  refine tot_ix l.length (fun i=>∀(h:i<l.length),Rk l[i]∧∀(h0:0<i) (h1:i-1<l.length),kc l[i-1].1 l[i].1<0) (fun i hi=>?_) fun h=>?_
  · have hw : wr ((i : Int) + 1) = (i : Int) + 1 := wr_id (by omega) (by omega)
    simp only [gt_at hi,hw]
    refine tot_cond.2 ⟨fun _=>tot_ck.2 ⟨by simp;omega,tot_j (fun x=>x.1=true↔¬(Rk l[i]∧∀(h0:0<i) (h1:i-1<l.length),kc l[i-1].1 l[i].1<0)) ?_ fun x hx=>tot_cond.2 ⟨fun e=>tot_ir.2 ?_,fun e=>tot_il.2 ⟨rfl,fun _=>?_⟩⟩⟩,fun h=>by simp at h;omega⟩
    · refine tot_cond.2 ⟨fun e=>tot_il.2 ?_,fun e=>?_⟩
      · have e:l[i].2=0:=by simpa using e
        simp only [true_iff]
        exact fun h=>h.1.1 e
      · have e:l[i].2≠0:=by simpa using e
        obtain ⟨⟨b,u⟩,hb,_⟩:=fits_t l[i].2
        simp only [hb,Option.bind_some]
        refine tot_cond.2 ⟨fun e2=>tot_il.2 ?_,fun e2=>?_⟩
        · simp only [true_iff]
          intro h
          have:=(yes_iff hb).1 h.1.2.1
          simp [this] at e2
        · obtain ⟨⟨d,v⟩,hd,_⟩:=prow_t l[i].1
          simp only [hd,Option.bind_some]
          refine tot_cond.2 ⟨fun e3=>tot_il.2 ?_,fun e3=>?_⟩
          · simp only [true_iff]
            intro h
            have:=(yes_iff hd).1 h.1.2.2
            simp [this] at e3
          · have hR:Rk l[i]:=⟨e,(yes_iff hb).2 (by simpa using e2),(yes_iff hd).2 (by simpa using e3)⟩
            refine tot_cond.2 ⟨fun e4=>?_,fun e4=>tot_il.2 ?_⟩
            · simp at e4
              have h1:i-1<l.length:=by omega
              have w1:wr ((i:Int)-1)=((i-1:Nat):Int):=by rw [wr_id (by omega) (by omega)];omega
              simp only [w1,gt_at h1]
              refine tot_ck.2 ⟨by simp;omega,?_⟩
              simp only [key_s _ _ (show l[i-1].1.length≤1000 by have:=hk _ (List.getElem_mem h1);omega),Option.bind_some,tot_il]
              simp only [decide_eq_true_eq,not_and,ge_iff_le]
              constructor
              · intro h _ h2
                have:=h2 e4 h1
                omega
              · intro h
                have:=h hR
                have:¬kc l[i-1].1 l[i].1<0:=fun h3=>this fun _ _=>h3
                exact Int.not_lt.1 this
            · simp at e4
              simp only [Bool.false_eq_true,false_iff,Classical.not_not]
              exact ⟨hR,fun h _=>by omega⟩
    · simp only [Bool.false_eq_true,false_iff]
      exact fun h=>(hx.1 e) (h i hi)
    · refine Classical.byContradiction fun h=>?_
      have:=hx.2 h
      rw [e] at this
      cases this
  · exact tot_cond.2 ⟨fun h=>by simp at h,fun _=>tot_ir.2 (by simp only [true_iff];exact fun i hi=>h i hi hi)⟩
/--a table's source -/
structure Ci (x:tSourceT) (t:tTableT):Prop where
  n:x.1=t.1
  b:Bk x.2
  r:∀(i:Nat) (h:i<x.2.length),(x.2[i].2=1∧x.2[i].1.length=t.2.1.length∧(fst0 x.2[i].1).1≠0)∧∀(h0:0<i) (h1:i-1<x.2.length),fst0 x.2[i-1].1≠fst0 x.2[i].1
/--what a closure asks of its sources -/
structure Cm (c:List tDefT) (b:List tSourceT):Prop where
  s:Yes (schema_May.F (c,()))
  n:(tabs c).length=b.length
  m:∀(i:Nat) (h:i<b.length) (h':i<(tabs c).length),Ci b[i] (tabs c)[i]
theorem clos_t (c : List tDefT) (hc : Gc c) (b : List tSourceT) (hb : Sb b) (h1 : ∀ x ∈ b,∀ r ∈ x.2,1 ≤ r.1.length) : Tot (closure_May.F (c,b,())) fun y => y.1 = true ↔ Cm c b := by
  rw [closure_May.eq];unfold closure_May.B
  have hl:=hb.l
  have hcl:=hc.len
  obtain ⟨⟨s,u⟩,hs,_⟩:=pmay_t c hc
  simp only [hs,Option.bind_some,ptabs_s c (show c.length≤1000 by omega)]
  refine tot_cond.2 ⟨fun e=>tot_some.2 ?_,fun e=>tot_cond.2 ⟨fun e2=>tot_some.2 ?_,fun e2=>?_⟩⟩
  · simp only [Bool.false_eq_true,false_iff]
    intro h
    have:=(yes_iff hs).1 h.s
    simp [this] at e
  · simp only [Bool.false_eq_true,false_iff]
    intro h
    have:=h.n
    simp at e2
    omega
  have hS:Yes (schema_May.F (c,())):=(yes_iff hs).2 (by simpa using e)
  have hn:(tabs c).length=b.length:=by simp at e2;omega
  refine tot_ix b.length (fun i=>∀(h:i<b.length) (h':i<(tabs c).length),Ci b[i] (tabs c)[i]) (fun i hi=>?_) fun h=>?_
  · have hw : wr ((i : Int) + 1) = (i : Int) + 1 := wr_id (by omega) (by omega)
    have hi':i<(tabs c).length:=by omega
    have g2:List.getD (tabs c) (Int.toNat (i:Int)) tTable.z=(tabs c)[i]:=gt_at hi' _
    simp only [gt_at hi,hw,g2]
    have hm:=List.getElem_mem hi
    have hrl:=hb.r _ hm
    have hrk:=hb.k _ hm
    have hr1:=h1 _ hm
    have ht:=(tabl_ok hc (List.getElem_mem hi')).1
    have no:¬Ci b[i] (tabs c)[i]→¬Cm c b:=fun h h2=>h (h2.m i hi hi')
    refine tot_cond.2 ⟨fun _=>tot_j (fun _=>Ci b[i] (tabs c)[i]) ?_ fun _ hx=>tot_il.2 ⟨rfl,fun _ _=>hx⟩,fun h=>by simp at h;omega⟩
    refine tot_ck.2 ⟨by simp;omega,tot_j (fun _=>b[i].1=(tabs c)[i].1∧Bk b[i].2) ?_ fun _ hx=>?_⟩
    · refine tot_ck.2 ⟨by simp;omega,tot_cond.2 ⟨fun e=>tot_ir.2 ?_,fun e=>tot_bind.2 ((bag_t _ hrl hrk).mono fun y hy=>tot_cond.2 ⟨fun e2=>tot_ir.2 ?_,fun e2=>tot_il.2 ⟨?_,?_⟩⟩)⟩⟩
      · simp only [Bool.false_eq_true,false_iff]
        refine no fun h=>?_
        rw [sq_iff.2 h.n] at e
        cases e
      · simp only [Bool.false_eq_true,false_iff]
        refine no fun h=>?_
        rw [hy.2 h.b] at e2
        cases e2
      · exact sq_iff.1 (by simpa using e)
      · exact hy.1 (by simpa using e2)
    · refine tot_ix b[i].2.length (fun j=>∀(h:j<b[i].2.length),(b[i].2[j].2=1∧b[i].2[j].1.length=(tabs c)[i].2.1.length∧(fst0 b[i].2[j].1).1≠0)∧∀(h0:0<j) (h1:j-1<b[i].2.length),fst0 b[i].2[j-1].1≠fst0 b[i].2[j].1) (fun j hj=>?_) fun h=>?_
      · have hw:wr ((j:Int)+1)=(j:Int)+1:=wr_id (by omega) (by omega)
        simp only [gt_at hj,hw]
        have hj1:=hr1 _ (List.getElem_mem hj)
        refine tot_cond.2 ⟨fun _=>tot_ck.2 ⟨by simp;omega,tot_j (fun x=>x.1=true↔¬((b[i].2[j].2=1∧b[i].2[j].1.length=(tabs c)[i].2.1.length∧(fst0 b[i].2[j].1).1≠0)∧∀(h0:0<j) (h1:j-1<b[i].2.length),fst0 b[i].2[j-1].1≠fst0 b[i].2[j].1)) ?_ fun x hx=>tot_cond.2 ⟨fun e=>tot_ir.2 ?_,fun e=>tot_il.2 ⟨rfl,fun _=>?_⟩⟩⟩,fun h=>by simp at h;omega⟩
        · refine tot_cond.2 ⟨fun e=>tot_il.2 ?_,fun e=>tot_ck.2 ⟨by simp;omega,tot_cond.2 ⟨fun e2=>tot_il.2 ?_,fun e2=>tot_ck.2 ⟨by rw [ib_iff];omega,tot_cond.2 ⟨fun e3=>tot_il.2 ?_,fun e3=>tot_cond.2 ⟨fun e4=>?_,fun e4=>tot_il.2 ?_⟩⟩⟩⟩⟩⟩
          · simp only [true_iff]
            intro h
            simp [h.1.1] at e
          · simp only [true_iff]
            intro h
            simp [h.1.2.1] at e2
          · simp only [true_iff]
            intro h
            exact h.1.2.2 (by simpa using e3)
          · simp at e4
            have hj':j-1<b[i].2.length:=by omega
            have w1:wr ((j:Int)-1)=((j-1:Nat):Int):=by rw [wr_id (by omega) (by omega)];omega
            have hj2:=hr1 _ (List.getElem_mem hj')
            simp only [w1,gt_at hj']
            refine tot_ck.2 ⟨by simp;omega,tot_ck.2 ⟨by rw [ib_iff];omega,tot_ck.2 ⟨by rw [ib_iff];omega,tot_il.2 ?_⟩⟩⟩
            dsimp only
            rw [eqV]
            constructor
            · intro h h2
              exact h2.2 e4 hj' h
            · intro h
              refine Classical.byContradiction fun h3=>h ⟨⟨by simpa using e,by simp at e2;omega,by simpa using e3⟩,fun _ _=>h3⟩
          · simp at e4
            simp only [Bool.false_eq_true,false_iff,Classical.not_not]
            exact ⟨⟨by simpa using e,by simp at e2;omega,by simpa using e3⟩,fun h _=>by omega⟩
        · simp only [Bool.false_eq_true,false_iff]
          exact no fun h=>(hx.1 e) (h.r j hj)
        · refine Classical.byContradiction fun h=>?_
          have:=hx.2 h
          rw [e] at this
          cases this
      · exact tot_cond.2 ⟨fun h=>by simp at h,fun _=>tot_ir.2 ⟨hx.1,hx.2,fun j hj=>h j hj hj⟩⟩
  · exact tot_cond.2 ⟨fun h=>by simp at h,fun _=>tot_ir.2 (by simp only [true_iff];exact ⟨hS,hn,fun i h1 h2=>h i h1 h1 h2⟩)⟩
end Go.Proofs.Ytnhiifengimfgaa
end
section
set_option maxRecDepth 100000
namespace Go.Proofs.Ytnhiifengimfgaa
open Go Lv Go.Proofs Go.RowKit Go.Shelf
variable [Lk]
theorem vpop_t (ok:Bool) (ks st:List tValueT) (h:st.length≤100000):Tot (expr_stack_api_Value_pop.F (ok,ks,st,())) fun y=>y.2.2.2.2.2.1.length≤st.length:=by
  rw [expr_stack_api_Value_pop.eq];unfold expr_stack_api_Value_pop.B
  refine tot_cond.2 ⟨fun _=>by simp,fun e=>?_⟩
  simp at e
  have:st.length≠0:=fun h=>e (List.length_eq_zero_iff.1 h)
  have hw:wr ((st.length:Int)-1)=(st.length:Int)-1:=wr_id (by omega) (by omega)
  simp only [hw]
  exact tot_ck.2 ⟨by simp;omega,tot_ck.2 ⟨by simp;omega,tot_some.2 (by simp)⟩⟩
theorem vpush_t (a b:Int) (s:ByteArray) (ok:Bool) (ks st:List tValueT) (h:st.length≤100000):Tot (expr_stack_api_Value_push.F (a,b,s,ok,ks,st,())) fun y=>y.2.2.1.length=st.length+1:=by
  rw [expr_stack_api_Value_push.eq];unfold expr_stack_api_Value_push.B
  simp
  omega
theorem truthV_t (b:Bool):Tot (value_Truth.F (b,())) fun _=>True:=by
  rw [value_Truth.eq];unfold value_Truth.B
  simp
theorem vadd_t (a b:Int) (s:ByteArray) (c d:Int) (t:ByteArray):Tot (value_Add.F (a,b,s,c,d,t,())) fun _=>True:=by
  rw [value_Add.eq];unfold value_Add.B
  refine tot_j (fun _=>True) ?_ fun _ _=>?_
  · exact tot_j (fun _=>True) (by simp) fun _ _=>by simp
  refine tot_j (fun _=>True) ?_ fun _ _=>by simp
  rw [value_Add_1.eq];unfold value_Add_1.B
  simp
theorem vsub_t (a b:Int) (s:ByteArray) (c d:Int) (t:ByteArray):Tot (value_Sub.F (a,b,s,c,d,t,())) fun _=>True:=by
  rw [value_Sub.eq];unfold value_Sub.B
  refine tot_j (fun _=>True) ?_ fun _ _=>?_
  · exact tot_j (fun _=>True) (by simp) fun _ _=>by simp
  refine tot_j (fun _=>True) ?_ fun _ _=>by simp
  rw [value_Sub_1.eq];unfold value_Sub_1.B
  simp
theorem vmul_t (a b:Int) (s:ByteArray) (c d:Int) (t:ByteArray):Tot (value_Mul.F (a,b,s,c,d,t,())) fun _=>True:=by
  rw [value_Mul.eq];unfold value_Mul.B
  refine tot_j (fun _=>True) ?_ fun _ _=>?_
  · exact tot_j (fun _=>True) (by simp) fun _ _=>by simp
  refine tot_j (fun _=>True) ?_ fun _ _=>by simp
  rw [value_Mul_1.eq];unfold value_Mul_1.B
  have am:∀n,Tot (value_amount.F (n,())) fun _=>True:=fun n=>by
    rw [value_amount.eq];unfold value_amount.B
    simp
  have mu:∀n m,Tot (math_bits_Mul64.F (n,m,())) fun _=>True:=fun n m=>by
    rw [math_bits_Mul64.eq];unfold math_bits_Mul64.B
    simp
  refine tot_bind.2 (tot_bind.2 ((am _).mono fun y _=>tot_bind.2 ((am _).mono fun z _=>tot_bind.2 ((mu _ _).mono fun u _=>by simp))))
theorem vfold_t (b:Bool) (l:List tValueT) (h:l.length≤100):Tot (value_fold.F (b,l,())) fun _=>True:=by
  rw [value_fold.eq];unfold value_fold.B
  refine tot_bind.2 ((truthV_t _).mono fun y _=>tot_bind.2 ((truthV_t _).mono fun z _=>tot_bind.2 (Tot.mono (P:=fun _=>True) ?_ fun u _=>tot_cond.2 ⟨fun _=>by simp,fun _=>?_⟩)))
  · rw [slices_Contains_sl_api_Value_api_Value.eq];unfold slices_Contains_sl_api_Value_api_Value.B
    rw [slices_Index_sl_api_Value_api_Value.eq];unfold slices_Index_sl_api_Value_api_Value.B
    refine tot_bind.2 (Tot.mono (P:=fun _=>True) (tot_r l.length fun i h0 h1=>?_) fun _ _=>by simp)
    simp [wr_is]
    omega
  · refine tot_r l.length fun i h0 h1=>tot_cond.2 ⟨fun h5=>?_,fun _=>tot_mapR.2 (by simp)⟩
    simp at h5
    have w4:wr (i+1)=i+1:=wr_id (by omega) (by omega)
    exact tot_j (fun _=>True) (tot_ck.2 ⟨by simp;omega,tot_il.2 trivial⟩) fun _ _=>tot_cond.2 ⟨fun _=>tot_mapR.2 (by simp),fun _=>by simp [w4];omega⟩
theorem vcmp_t (o a b:Int) (s:ByteArray) (c d:Int) (t:ByteArray):Tot (expr_compare.F (o,a,b,s,c,d,t,())) fun _=>True:=by
  rw [expr_compare.eq];unfold expr_compare.B
  have tr:∀b,Tot (Option.bind (value_Truth.F (b,())) fun y=>some (y.1,y.2.1,y.2.2.1,())) fun _=>True:=fun b=>tot_bind.2 ((truthV_t b).mono fun _ _=>tot_some.2 trivial)
  refine tot_j (fun _=>True) (by simp) fun _ _=>?_
  have:=cV_t (a,b,s) (c,d,t)
  dsimp only at this
  simp only [this,Option.bind_some]
  exact tot_cond.2 ⟨fun _=>tot_cond.2 ⟨fun _=>tr _,fun _=>tot_cond.2 ⟨fun _=>tr _,fun _=>tr _⟩⟩,fun _=>tot_cond.2 ⟨fun _=>tr _,fun _=>tr _⟩⟩
theorem vdo_t (o a b:Int) (s:ByteArray) (c d:Int) (t:ByteArray):Tot (expr_do.F (o,a,b,s,c,d,t,())) fun _=>True:=by
  rw [expr_do.eq];unfold expr_do.B
  refine tot_cond.2 ⟨fun _=>tot_bind.2 ((vadd_t _ _ _ _ _ _).mono fun _ _=>tot_some.2 trivial),fun _=>tot_cond.2 ⟨fun _=>tot_bind.2 ((vsub_t _ _ _ _ _ _).mono fun _ _=>tot_some.2 trivial),fun _=>tot_cond.2 ⟨fun _=>tot_bind.2 ((vmul_t _ _ _ _ _ _).mono fun _ _=>tot_some.2 trivial),fun _=>?_⟩⟩⟩
  refine tot_cond.2 ⟨fun _=>?_,fun _=>tot_cond.2 ⟨fun _=>?_,fun _=>tot_cond.2 ⟨fun _=>?_,fun _=>tot_cond.2 ⟨fun _=>tot_bind.2 ((truthV_t _).mono fun _ _=>tot_some.2 trivial),fun _=>tot_bind.2 ((vcmp_t _ _ _ _ _ _ _).mono fun _ _=>tot_some.2 trivial)⟩⟩⟩⟩
  · rw [value_And.eq];unfold value_And.B
    exact tot_bind.2 (tot_bind.2 ((vfold_t _ _ (by simp)).mono fun _ _=>tot_some.2 (tot_some.2 trivial)))
  · rw [value_Or.eq];unfold value_Or.B
    exact tot_bind.2 (tot_bind.2 ((vfold_t _ _ (by simp)).mono fun _ _=>tot_some.2 (tot_some.2 trivial)))
  · rw [value_Not.eq];unfold value_Not.B
    refine tot_bind.2 (tot_bind.2 ((truthV_t _).mono fun _ _=>tot_cond.2 ⟨fun _=>tot_bind.2 ((truthV_t _).mono fun _ _=>tot_some.2 (tot_some.2 trivial)),fun _=>tot_bind.2 ((truthV_t _).mono fun _ _=>tot_cond.2 ⟨fun _=>tot_bind.2 ((truthV_t _).mono fun _ _=>tot_some.2 (tot_some.2 trivial)),fun _=>tot_some.2 (tot_some.2 trivial)⟩)⟩))
theorem vstep_t (a b c d:Int) (s:ByteArray) (ok:Bool) (ks st:List tValueT) (h:st.length≤10000):Tot (expr_evaluator_step.F (a,b,c,d,s,ok,ks,st,())) fun y=>y.2.2.2.1.length≤st.length+1:=by
  rw [expr_evaluator_step.eq];unfold expr_evaluator_step.B
  obtain ⟨⟨t,_⟩,ht,t2,t3⟩:=ptakes_t a
  dsimp only at t2 t3
  simp only [ht,Option.bind_some]
  refine tot_j (fun x=>x.2.2.1.length≤st.length) ?_ ?_
  · exact tot_cond.2 ⟨fun _=>tot_bind.2 ((vpop_t _ _ _ (by omega)).mono fun y hy=>tot_il.2 hy),fun _=>tot_il.2 (Nat.le_refl _)⟩
  rintro ⟨ok,ks,st1,v1,v2,v3,_⟩ h1
  dsimp only at h1 ⊢
  refine tot_j (fun x=>x.2.2.1.length≤st.length) ?_ ?_
  · exact tot_cond.2 ⟨fun _=>tot_bind.2 ((vpop_t _ _ _ (by omega)).mono fun y hy=>tot_il.2 (by dsimp only;omega)),fun _=>tot_il.2 h1⟩
  rintro ⟨ok,ks,st2,u1,u2,u3,_⟩ h2
  dsimp only at h2 ⊢
  have dn:∀n,Tot (α:=Int×Bool×List tValueT×List tValueT×Unit) (some (n,ok,ks,st2,())) fun y=>y.2.2.2.1.length≤st.length+1:=fun n=>tot_some.2 (by dsimp only;omega)
  have psh:∀x y z,Tot (Option.bind (expr_stack_api_Value_push.F (x,y,z,ok,ks,st2,())) fun y8=>some ((0:Int),y8.1,y8.2.1,y8.2.2.1,())) fun y=>y.2.2.2.1.length≤st.length+1:=fun x y z=>tot_bind.2 ((vpush_t x y z ok ks st2 (by omega)).mono fun y hy=>tot_some.2 (by dsimp only;omega))
  refine tot_j (fun x=>x.1=false→0≤t) ?_ fun x hx=>tot_cond.2 ⟨fun _=>dn _,fun e=>?_⟩
  · exact tot_cond.2 ⟨fun _=>tot_il.2 (fun h=>by cases h),fun _=>tot_il.2 (fun h=>by simpa using h)⟩
  have ht0:=hx e
  refine tot_cond.2 ⟨fun _=>tot_cond.2 ⟨fun _=>dn _,fun e1=>tot_cond.2 ⟨fun _=>dn _,fun e2=>?_⟩⟩,fun _=>tot_cond.2 ⟨fun _=>tot_bind.2 ((valueMay_t _ _ _).mono fun z _=>tot_cond.2 ⟨fun _=>dn _,fun _=>psh _ _ _⟩),fun _=>?_⟩⟩
  · simp at e1 e2
    exact tot_ck.2 ⟨by simp;omega,psh _ _ _⟩
  · have w1:wr (2-t)=2-t:=wr_id (by omega) (by omega)
    simp only [w1]
    refine tot_ck.2 ⟨by simp;omega,tot_bind.2 ((pleaves_t a _ ?_ ?_).mono fun z _=>tot_cond.2 ⟨fun _=>dn _,fun _=>tot_bind.2 ((vdo_t _ _ _ _ _ _ _).mono fun y hy=>tot_cond.2 ⟨fun _=>dn _,fun _=>psh _ _ _⟩)⟩)⟩
    · simp
      omega
    · intro h
      have:=t3 h
      subst this
      rfl
theorem eval_t (e:List tNodeT) (l:List tValueT):Tot (expr_Eval.F (e,l,())) fun _=>True:=by
  rw [expr_Eval.eq];unfold expr_Eval.B
  refine tot_cond.2 ⟨fun _=>by simp,fun h=>?_⟩
  simp at h
  refine tot_j (fun _=>True) ?_ fun x _=>?_
  · refine tot_l (fun x=>e.length-x.1.toNat) (fun x=>0≤x.1∧x.1≤(e.length:Int)∧(x.2.2.2.1.length:Int)≤x.1) (by simp) ?_
    rintro ⟨i,ok,k,st,_⟩ ⟨i1,i2,i3⟩
    dsimp only at i1 i2 i3 ⊢
    refine tot_cond.2 ⟨fun h5=>?_,fun h5=>tot_ir.2 trivial⟩
    simp at h5
    have hw:wr (i+1)=i+1:=wr_id (by omega) (by omega)
    refine tot_ck.2 ⟨by simp;omega,tot_bind.2 ((vstep_t _ _ _ _ _ _ _ _ (by omega)).mono fun y hy=>tot_cond.2 ⟨fun _=>tot_ir.2 trivial,fun _=>?_⟩)⟩
    simp only [tot_il,hw]
    exact ⟨⟨by omega,by omega,by omega⟩,by omega⟩
  · rw [expr_stack_api_Value_one.eq];unfold expr_stack_api_Value_one.B
    refine tot_bind.2 (Tot.mono (P:=fun _=>True) ?_ fun y _=>tot_cond.2 ⟨fun _=>tot_some.2 trivial,fun _=>tot_some.2 trivial⟩)
    simp
    omega
end Go.Proofs.Ytnhiifengimfgaa
end
section
set_option maxRecDepth 100000
namespace Go.Proofs.Ytnhiifengimfgaa
open Go Lv Go.Proofs Go.RowKit Go.Shelf
variable [Lk]
/--a row's value in a column -/
abbrev vl (r:tCountT) (k:Nat):tValueT:=List.getD r.1 k tValue.z
omit [Lk] in
theorem gt_nat {α:Type} (xs:List α) (k:Nat) (z:α):gt xs (k:Int) z=List.getD xs k z:=by
  unfold gt
  rw [Int.toNat_natCast]
def okK (v:tValueT) (c:tColumnT):Prop:=v.1=c.2.1∨(c.2.2.1=true∧v.1=0)
def Kd (cs:List tColumnT) (rows:List tCountT):Prop:=∀r∈rows,∀(k:Nat) (h:k<cs.length),okK (vl r k) cs[k]
omit [Lk] in
theorem iff_no {y:Int} {P:Prop} (h:0≤y) (h2:¬P):y<0↔P:=⟨fun h3=>by omega,fun h3=>absurd h3 h2⟩
theorem kinds_t (n : ByteArray) (cs : List tColumnT) (es : List (List tNodeT)) (rows : List tCountT) (b : List tSourceT) (hc : cs.length ≤ 400) (hr : rows.length ≤ 12) (hl : ∀ r ∈ rows,r.1.length = cs.length) :
    Tot (check_checker_kinds.F (n,cs,es,rows,b,())) fun y=>y.1<0↔Kd cs rows:=by
  rw [check_checker_kinds.eq];unfold check_checker_kinds.B
  refine tot_all (l:=rows) (fun r=>∀(k:Nat) (h:k<cs.length),okK (vl r k) cs[k]) (fun i hi=>?_) fun h=>?_
  · have hw:wr ((i:Int)+1)=(i:Int)+1:=wr_id (by omega) (by omega)
    have hL:=hl _ (List.getElem_mem hi)
    simp only [gt_at hi,hw]
    refine tot_cond.2 ⟨fun _=>tot_j (fun _=>∀(k:Nat) (h:k<cs.length),okK (vl rows[i] k) cs[k]) (tot_ck.2 ⟨by simp;omega,?_⟩) fun _ hx=>tot_il.2 ⟨rfl,hx⟩,fun h=>by simp at h;omega⟩
    refine tot_ix rows[i].1.length (fun k=>∀(h:k<cs.length),okK (vl rows[i] k) cs[k]) (fun k hk=>?_) fun h=>?_
    · have hw:wr ((k:Int)+1)=(k:Int)+1:=wr_id (by omega) (by omega)
      have hk':k<cs.length:=by omega
      simp only [gt_at hk',gt_nat,hw]
      have no:¬okK (vl rows[i] k) cs[k]→¬Kd cs rows:=fun h h2=>h (h2 _ (List.getElem_mem hi) k hk')
      refine tot_cond.2 ⟨fun _=>tot_ck.2 ⟨by simp;omega,tot_ck.2 ⟨by simp;omega,tot_cond.2 ⟨fun e=>tot_cond.2 ⟨fun e2=>tot_cond.2 ⟨fun e3=>tot_ir.2 ?_,fun e3=>tot_il.2 ⟨rfl,fun _=>?_⟩⟩,fun e2=>tot_ir.2 ?_⟩,fun e=>tot_il.2 ⟨rfl,fun _=>?_⟩⟩⟩⟩,fun h=>by simp at h;omega⟩
      · refine iff_no (by simp) (no ?_)
        rintro (h|h)
        · exact absurd h (by simpa using e)
        · exact absurd h.2 (by simpa using e3)
      · exact .inr ⟨e2,by simpa using e3⟩
      · refine iff_no (by simp) (no ?_)
        rintro (h|h)
        · exact absurd h (by simpa using e)
        · rw [h.1] at e2;cases e2
      · exact .inl (by simpa using e)
    · exact tot_cond.2 ⟨fun h=>by simp at h,fun _=>tot_ir.2 fun k hk=>h k (by omega) hk⟩
  · exact tot_cond.2 ⟨fun h=>by simp at h,fun _=>tot_ir.2 ⟨fun _=>h,fun _=>by simp⟩⟩
/-! maps by values -/
abbrev kW (v:tValueT):Value:=kV v.1 v.2.1 v.2.2
omit [Lk] in
theorem kW_eq (v u:tValueT):kEq (kW v) (kW u)=true↔v=u:=by
  obtain ⟨a,b,s⟩:=v
  obtain ⟨c,d,t⟩:=u
  simp [kW,kV,kEq,MapKept.bytes_beq]
omit [Lk] in
theorem kW_no {v u:tValueT} (h:v≠u):kEq (kW v) (kW u)=false:=by
  rw [←Bool.not_eq_true,kW_eq]
  exact h
structure Mp (m:List (Value×Bool)) (S:tValueT→Prop):Prop where
  k:∀p∈m,∃v:tValueT,p.1=kW v
  s:∀v:tValueT,Option.getD (getKV (kW v) m) false=true↔S v
omit [Lk] in
theorem put_get (u v : tValueT) : ∀ (m : List (Value × Bool)),(∀ p ∈ m,∃ v : tValueT,p.1 = kW v) → (v = u → getKV (kW v) (putKV (kW u) true m) = some true) ∧ (v ≠ u → getKV (kW v) (putKV (kW u) true m) = getKV (kW v) m)
  | [],_=>by
    constructor
    · rintro rfl
      simp only [putKV,getKV,(kW_eq _ _).2 rfl,cond_true]
    · intro h
      simp only [putKV,getKV,kW_no h,cond_false]
  | (k,x) :: r,h => by
    obtain ⟨w,hw⟩:=h (k,x) (by simp)
    dsimp only at hw
    subst hw
    have ih:=put_get u v r fun p hp=>h p (by simp [hp])
    by_cases e:u=w
    · subst e
      constructor
      · rintro rfl
        simp only [putKV,getKV,(kW_eq _ _).2 rfl,cond_true]
      · intro h
        simp only [putKV,getKV,(kW_eq _ _).2 rfl,cond_true,kW_no h,cond_false]
    · by_cases e2:v=w
      · subst e2
        constructor
        · exact fun h=>absurd h.symm e
        · intro _
          simp only [putKV,getKV,kW_no e,cond_false,(kW_eq _ _).2 rfl,cond_true]
      · simp only [putKV,getKV,kW_no e,cond_false,kW_no e2]
        exact ih
omit [Lk] in
theorem put_k (u:tValueT):∀(m:List (Value×Bool)),(∀p∈m,∃v:tValueT,p.1=kW v)→∀p∈putKV (kW u) true m,∃v:tValueT,p.1=kW v
  | [],_,p,hp=>by
    simp only [putKV,List.mem_singleton] at hp
    exact ⟨u,by rw [hp]⟩
  |(k,x)::r,h,p,hp=>by
    unfold putKV at hp
    cases e:kEq (kW u) k with
    |true=>
      rw [e,cond_true] at hp
      rcases List.mem_cons.1 hp with rfl|hp
      · exact h (k,x) (by simp)
      · exact h p (by simp [hp])
    |false=>
      rw [e,cond_false] at hp
      rcases List.mem_cons.1 hp with rfl|hp
      · exact h (k,x) (by simp)
      · exact put_k u r (fun p hp=>h p (by simp [hp])) p hp
omit [Lk] in
theorem Mp.nil:Mp [] fun _=>False:=⟨fun p h=>(by cases h),fun v=>by simp [getKV]⟩
omit [Lk] in
theorem Mp.put {m:List (Value×Bool)} {S T:tValueT→Prop} (h:Mp m S) (u:tValueT) (ht:∀v,T v↔v=u∨S v):Mp (putKV (kW u) true m) T:=⟨put_k u m h.k,fun v=>by
  have:=put_get u v m h.k
  rw [ht]
  by_cases e:v=u
  · rw [this.1 e];simp [e]
  · rw [this.2 e,h.s];simp [e]⟩
def Uq (cs:List tColumnT) (rows:List tCountT):Prop:=∀(k:Nat) (h:k<cs.length),cs[k].2.2.2.1=true→∀(i j:Nat) (hj:j<rows.length) (hij:i<j),(vl rows[j] k).1≠0→vl rows[i] k≠vl rows[j] k
theorem unique_t (n : ByteArray) (cs : List tColumnT) (es : List (List tNodeT)) (rows : List tCountT) (b : List tSourceT) (hc : cs.length ≤ 400) (hr : rows.length ≤ 12) (hl : ∀ r ∈ rows,r.1.length = cs.length) :
    Tot (check_checker_unique.F (n,cs,es,rows,b,())) fun y=>y.1<0↔Uq cs rows:=by
  rw [check_checker_unique.eq];unfold check_checker_unique.B
  refine tot_ix cs.length (fun k=>∀(h:k<cs.length),cs[k].2.2.2.1=true→∀(i j:Nat) (hj:j<rows.length) (hij:i<j),(vl rows[j] k).1≠0→vl rows[i] k≠vl rows[j] k) (fun k hk=>?_) fun h=>?_
  · have hw:wr ((k:Int)+1)=(k:Int)+1:=wr_id (by omega) (by omega)
    simp only [gt_at hk,hw]
    refine tot_cond.2 ⟨fun _=>tot_j (fun _=>cs[k].2.2.2.1=true→∀(i j:Nat) (hj:j<rows.length) (hij:i<j),(vl rows[j] k).1≠0→vl rows[i] k≠vl rows[j] k) (tot_ck.2 ⟨by simp;omega,?_⟩) fun _ hx=>tot_il.2 ⟨rfl,fun _=>hx⟩,fun h=>by simp at h;omega⟩
    refine tot_cond.2 ⟨fun e=>tot_il.2 fun h=>(by rw [h] at e;cases e),fun e=>?_⟩
    have hu:cs[k].2.2.2.1=true:=by simpa using e
    refine tot_l (fun x=>rows.length-x.1.toNat) (fun x=>∃i:Nat,x.1=(i:Int)∧i≤rows.length∧Mp x.2.1 (fun v=>∃(j:Nat) (h:j<rows.length),j<i∧vl rows[j] k=v)∧∀(p q:Nat) (hq:q<rows.length) (hpq:p<q),q<i→(vl rows[q] k).1≠0→vl rows[p] k≠vl rows[q] k) ⟨0,rfl,by omega,⟨fun p h=>(by cases h),fun v=>by simp [getKV]⟩,fun _ _ _ _ h=>by omega⟩ ?_
    rintro ⟨_,m,_⟩ ⟨i,rfl,i1,i2,i3⟩
    dsimp only at i2 i3 ⊢
    refine tot_cond.2 ⟨fun h5=>?_,fun h5=>tot_ir.2 fun _ p q hq hpq=>i3 p q hq hpq (by simp at h5;omega)⟩
    simp at h5
    have hw:wr ((i:Int)+1)=((i+1:Nat):Int):=by rw [wr_id (by omega) (by omega)];omega
    have hL:=hl _ (List.getElem_mem h5)
    simp only [gt_at h5,gt_nat,hw]
    have put:Mp (putKV (kW (vl rows[i] k)) true m) (fun v=>∃(j:Nat) (h:j<rows.length),j<i+1∧vl rows[j] k=v):=i2.put _ fun v=>by
      constructor
      · rintro ⟨j,hj,hji,rfl⟩
        by_cases e:j=i
        · subst e;exact .inl rfl
        · exact .inr ⟨j,hj,by omega,rfl⟩
      · rintro (rfl|⟨j,hj,hji,rfl⟩)
        · exact ⟨i,h5,by omega,rfl⟩
        · exact ⟨j,hj,by omega,rfl⟩
    refine tot_ck.2 ⟨by simp;omega,tot_ck.2 ⟨by simp;omega,tot_cond.2 ⟨fun e=>tot_cond.2 ⟨fun e2=>tot_ir.2 ?_,fun e2=>tot_il.2 ⟨⟨i+1,rfl,h5,put,fun p q hq hpq hqi hz=>?_⟩,by dsimp only;omega⟩⟩,fun e=>tot_il.2 ⟨⟨i+1,rfl,h5,put,fun p q hq hpq hqi hz=>?_⟩,by dsimp only;omega⟩⟩⟩⟩
    · refine iff_no (by simp) fun h=>?_
      obtain ⟨j,hj,hji,ej⟩:=(i2.s _).1 e2
      exact h k hk hu j i h5 hji (by simpa using e) ej
    · by_cases eq:q=i
      · subst eq
        intro ej
        have:=(i2.s (vl rows[q] k)).2 ⟨p,by omega,hpq,ej⟩
        rw [this] at e2
        cases e2
      · exact i3 p q hq hpq (by omega) hz
    · by_cases eq:q=i
      · subst eq
        exact absurd (by simpa using e) hz
      · exact i3 p q hq hpq (by omega) hz
  · exact tot_cond.2 ⟨fun h=>by simp at h,fun _=>tot_ir.2 ⟨fun _ k hk=>h k hk hk,fun _=>by simp⟩⟩
end Go.Proofs.Ytnhiifengimfgaa
end
section
set_option maxRecDepth 100000
namespace Go.Proofs.Ytnhiifengimfgaa
open Go Lv Go.Proofs Go.RowKit Go.Shelf
variable [Lk]
abbrev zV:tValueT:=((0:Int),((0:Int),(⟨#[]⟩:ByteArray)))
def Rf (cs:List tColumnT) (rows:List tCountT) (b:List tSourceT):Prop:=∀(k:Nat) (h:k<cs.length),cs[k].2.2.2.2.1≠(⟨#[]⟩:ByteArray)→∀r∈rows,vl r k=zV∨∃q∈fl b cs[k].2.2.2.2.1,fst0 q.1=vl r k
theorem refsP_t (n : ByteArray) (cs : List tColumnT) (es : List (List tNodeT)) (rows : List tCountT) (b : List tSourceT) (hc : cs.length ≤ 400) (hr : rows.length ≤ 12) (hl : ∀ r ∈ rows,r.1.length = cs.length) (hb : Sb b) (h1 : ∀ x ∈ b,∀ r ∈ x.2,1 ≤ r.1.length) :
    Tot (check_checker_refs.F (n,cs,es,rows,b,())) fun y=>y.1<0↔Rf cs rows b:=by
  rw [check_checker_refs.eq];unfold check_checker_refs.B
  have hbl:=hb.l
  refine tot_ix cs.length (fun k=>∀(h:k<cs.length),cs[k].2.2.2.2.1≠(⟨#[]⟩:ByteArray)→∀r∈rows,vl r k=zV∨∃q∈fl b cs[k].2.2.2.2.1,fst0 q.1=vl r k) (fun k hk=>?_) fun h=>?_
  · have hw : wr ((k : Int) + 1) = (k : Int) + 1 := wr_id (by omega) (by omega)
    simp only [gt_at hk,hw]
    refine tot_cond.2 ⟨fun _=>tot_j (fun _=>cs[k].2.2.2.2.1≠(⟨#[]⟩:ByteArray)→∀r∈rows,vl r k=zV∨∃q∈fl b cs[k].2.2.2.2.1,fst0 q.1=vl r k) (tot_ck.2 ⟨by simp;omega,?_⟩) fun _ hx=>tot_il.2 ⟨rfl,fun _=>hx⟩,fun h=>by simp at h;omega⟩
    refine tot_cond.2 ⟨fun e=>tot_il.2 fun h=>absurd (sq_iff.1 e) h,fun e=>?_⟩
    have hne:=sq_no.1 e
    have hf:(fl b cs[k].2.2.2.2.1).length≤12∧∀r∈fl b cs[k].2.2.2.2.1,1≤r.1.length:=by
      rcases fl_in b cs[k].2.2.2.2.1 with h|⟨x,hx,_,h⟩
      · rw [h];simp
      · rw [h];exact ⟨hb.r x hx,h1 x hx⟩
    simp only [look_s b _ (show b.length≤1000 by omega),Option.bind_some]
    generalize hys:fl b cs[k].2.2.2.2.1=ys at hf ⊢
    refine tot_j (fun x=>Mp x.1 (fun v=>v=zV∨∃q∈ys,fst0 q.1=v)) ?_ fun x hm=>?_
    · refine tot_l (fun x=>ys.length-x.1.toNat) (fun x=>∃i:Nat,x.1=(i:Int)∧i≤ys.length∧Mp x.2.1 (fun v=>v=zV∨∃(j:Nat) (h:j<ys.length),j<i∧fst0 ys[j].1=v)) ⟨0,rfl,by omega,Mp.nil.put zV fun v=>by simp⟩ ?_
      rintro ⟨_,m,_⟩ ⟨i,rfl,i1,i2⟩
      dsimp only at i2 ⊢
      refine tot_cond.2 ⟨fun h5=>?_,fun h5=>tot_ir.2 ⟨i2.k,fun v=>(i2.s v).trans ?_⟩⟩
      · simp at h5
        have hw:wr ((i:Int)+1)=((i+1:Nat):Int):=by rw [wr_id (by omega) (by omega)];omega
        have:=hf.2 _ (List.getElem_mem h5)
        simp only [gt_at h5,hw]
        refine tot_ck.2 ⟨by simp;omega,tot_ck.2 ⟨by rw [ib_iff];omega,tot_il.2 ⟨⟨i+1,rfl,h5,i2.put _ fun v=>?_⟩,by dsimp only;omega⟩⟩⟩
        constructor
        · rintro (rfl|⟨j,hj,hji,rfl⟩)
          · exact .inr (.inl rfl)
          · by_cases e:j=i
            · subst e;exact .inl rfl
            · exact .inr (.inr ⟨j,hj,by omega,rfl⟩)
        · rintro (rfl|rfl|⟨j,hj,hji,rfl⟩)
          · exact .inr ⟨i,h5,by omega,rfl⟩
          · exact .inl rfl
          · exact .inr ⟨j,hj,by omega,rfl⟩
      · simp at h5
        constructor
        · rintro (rfl|⟨j,hj,hji,rfl⟩)
          · exact .inl rfl
          · exact .inr ⟨_,List.getElem_mem hj,rfl⟩
        · rintro (rfl|⟨q,hq,rfl⟩)
          · exact .inl rfl
          · obtain ⟨j,hj,rfl⟩:=List.getElem_of_mem hq
            exact .inr ⟨j,hj,by omega,rfl⟩
    · refine tot_all (l:=rows) (fun r=>vl r k=zV∨∃q∈ys,fst0 q.1=vl r k) (fun i hi=>?_) fun h=>?_
      · have hw:wr ((i:Int)+1)=(i:Int)+1:=wr_id (by omega) (by omega)
        have hL:=hl _ (List.getElem_mem hi)
        simp only [gt_at hi,gt_nat,hw]
        refine tot_cond.2 ⟨fun _=>tot_ck.2 ⟨by simp;omega,tot_ck.2 ⟨by simp;omega,tot_cond.2 ⟨fun e=>tot_ir.2 ?_,fun e=>tot_il.2 ⟨rfl,?_⟩⟩⟩⟩,fun h=>by simp at h;omega⟩
        · refine iff_no (by simp) fun h=>?_
          have:=h k hk hne _ (List.getElem_mem hi)
          rw [hys] at this
          have:=(hm.s (vl rows[i] k)).2 this
          rw [this] at e
          cases e
        · exact (hm.s (vl rows[i] k)).1 (by simpa using e)
      · exact tot_cond.2 ⟨fun h=>by simp at h,fun _=>tot_ir.2 fun _=>h⟩
  · exact tot_cond.2 ⟨fun h=>by simp at h,fun _=>tot_ir.2 ⟨fun _ k hk=>h k hk hk,fun _=>by simp⟩⟩
/--a check that holds of a row -/
def Ev (e:List tNodeT) (l:List tValueT):Prop:=Tot (expr_Eval.F (e,l,())) fun y=>y.2.2.2.1=0∧(y.1,(y.2.1,y.2.2.1))≠((1:Int),((0:Int),(⟨#[]⟩:ByteArray)))
def Ck' (es:List (List tNodeT)) (rows:List tCountT):Prop:=∀e∈es,∀r∈rows,Ev e r.1
theorem checks_t (n : ByteArray) (cs : List tColumnT) (es : List (List tNodeT)) (rows : List tCountT) (b : List tSourceT) (he : es.length ≤ 400) (hr : rows.length ≤ 12) :
    Tot (check_checker_checks.F (n,cs,es,rows,b,())) fun y=>y.2.1=0↔Ck' es rows:=by
  rw [check_checker_checks.eq];unfold check_checker_checks.B
  refine tot_all (l:=es) (fun e=>∀r∈rows,Ev e r.1) (fun i hi=>?_) fun h=>?_
  · have hw:wr ((i:Int)+1)=(i:Int)+1:=wr_id (by omega) (by omega)
    simp only [gt_at hi,hw]
    refine tot_cond.2 ⟨fun _=>tot_j (fun _=>∀r∈rows,Ev es[i] r.1) (tot_ck.2 ⟨by simp;omega,?_⟩) fun _ hx=>tot_il.2 ⟨rfl,hx⟩,fun h=>by simp at h;omega⟩
    refine tot_all (l:=rows) (fun r=>Ev es[i] r.1) (fun j hj=>?_) fun h=>?_
    · have hw:wr ((j:Int)+1)=(j:Int)+1:=wr_id (by omega) (by omega)
      obtain ⟨y,hy,_⟩:=eval_t es[i] rows[j].1
      have hv:value_Truth.F (false,())=some ((1:Int),(0:Int),(⟨#[]⟩:ByteArray),()):=by rw [value_Truth.eq];rfl
      have no:∀z:Int,z≠0→¬Ev es[i] rows[j].1→(z=0↔Ck' es rows):=fun z hz h=>⟨fun h2=>absurd h2 hz,fun h2=>absurd (h2 _ (List.getElem_mem hi) _ (List.getElem_mem hj)) h⟩
      simp only [gt_at hj,hw,hy,Option.bind_some,hv]
      refine tot_cond.2 ⟨fun _=>tot_ck.2 ⟨by simp;omega,tot_cond.2 ⟨fun e=>tot_ir.2 ?_,fun e=>tot_cond.2 ⟨fun e2=>tot_ir.2 ?_,fun e2=>tot_il.2 ⟨rfl,?_⟩⟩⟩⟩,fun h=>by simp at h;omega⟩
      · refine no _ (by simpa using e) fun h=>?_
        unfold Ev at h
        rw [hy] at h
        have:=(tot_some.1 h).1
        simp [this] at e
      · refine no _ (by simp) fun h=>?_
        unfold Ev at h
        rw [hy] at h
        exact (tot_some.1 h).2 (eqV.1 e2)
      · show Ev es[i] rows[j].1
        unfold Ev
        rw [hy]
        exact tot_some.2 ⟨by simpa using e,neV.1 e2⟩
    · exact tot_cond.2 ⟨fun h=>by simp at h,fun _=>tot_ir.2 fun r hr=>h r hr⟩
  · exact tot_cond.2 ⟨fun h=>by simp at h,fun _=>tot_ir.2 ⟨fun _=>h,fun _=>rfl⟩⟩
/--a table's rows pass -/
structure Tb (t:tTableT) (b:List tSourceT):Prop where
  k:Kd t.2.1 (fl b t.1)
  u:Uq t.2.1 (fl b t.1)
  r:Rf t.2.1 (fl b t.1) b
  c:Ck' t.2.2 (fl b t.1)
theorem table_t (t:tTableT) (b:List tSourceT) (hc:t.2.1.length≤400) (he:t.2.2.length≤400) (hl:∀r∈fl b t.1,r.1.length=t.2.1.length) (hb:Sb b) (h1:∀x∈b,∀r∈x.2,1≤r.1.length):
    Tot (check_table.F (t.1,t.2.1,t.2.2,b,())) fun y=>y.1=0↔Tb t b:=by
  rw [check_table.eq];unfold check_table.B
  have hbl:=hb.l
  have hf:(fl b t.1).length≤12:=by
    rcases fl_in b t.1 with h|⟨x,hx,_,h⟩
    · rw [h];simp
    · rw [h];exact hb.r x hx
  simp only [look_s b _ (show b.length≤1000 by omega),Option.bind_some]
  have no:∀z:Int,z≠0→¬Tb t b→(z=0↔Tb t b):=fun z hz h=>⟨fun h2=>absurd h2 hz,fun h2=>absurd h2 h⟩
  refine tot_j (fun _=>Kd t.2.1 (fl b t.1)∧Uq t.2.1 (fl b t.1)∧Rf t.2.1 (fl b t.1) b) ?_ fun _ hx=>?_
  · refine tot_j (fun x=>x.1<0↔Kd t.2.1 (fl b t.1)) (tot_bind.2 ((kinds_t _ _ _ _ _ hc hf hl).mono fun y hy=>tot_il.2 hy)) fun x hk=>tot_cond.2 ⟨fun e=>tot_ir.2 (no _ (by simp) fun h=>?_),fun e=>?_⟩
    · have:=hk.2 h.k
      simp at e;omega
    refine tot_j (fun x=>x.1<0↔Uq t.2.1 (fl b t.1)) (tot_bind.2 ((unique_t _ _ _ _ _ hc hf hl).mono fun y hy=>tot_il.2 hy)) fun x2 hu=>tot_cond.2 ⟨fun e2=>tot_ir.2 (no _ (by simp) fun h=>?_),fun e2=>?_⟩
    · have:=hu.2 h.u
      simp at e2;omega
    refine tot_j (fun x=>x.1<0↔Rf t.2.1 (fl b t.1) b) (tot_bind.2 ((refsP_t _ _ _ _ _ hc hf hl hb h1).mono fun y hy=>tot_il.2 hy)) fun x3 hr=>tot_cond.2 ⟨fun e3=>tot_ir.2 (no _ (by simp) fun h=>?_),fun e3=>tot_il.2 ⟨hk.1 ?_,hu.1 ?_,hr.1 ?_⟩⟩
    · have:=hr.2 h.r
      simp at e3;omega
    · simp at e;omega
    · simp at e2;omega
    · simp at e3;omega
  · refine tot_bind.2 ((checks_t _ _ _ _ _ he hf).mono fun y hy=>tot_cond.2 ⟨fun e=>tot_some.2 (no _ (by simpa using e) fun h=>?_),fun e=>tot_some.2 ⟨fun _=>⟨hx.1,hx.2.1,hx.2.2,hy.1 (by simpa using e)⟩,fun _=>rfl⟩⟩)
    have:=hy.2 h.c
    simp [this] at e
theorem Cm.fl {c:List tDefT} {b:List tSourceT} (hc:Gc c) (h:Cm c b) {i:Nat} (hi:i<(tabs c).length) (hi':i<b.length):fl b (tabs c)[i].1=b[i].2:=by
  refine fl_some hi' (h.m i hi' hi).n fun j hj=>?_
  rw [(h.m j (by omega) (by omega)).n]
  exact List.pairwise_iff_getElem.1 (tab_nm hc) j i (by omega) hi hj
/--all that check.First asks -/
structure Fi (c:List tDefT) (b:List tSourceT):Prop where
  m:Cm c b
  t:∀t∈tabs c,Tb t b
theorem first_t (c:List tDefT) (hc:Gc c) (b:List tSourceT) (hb:Sb b) (h1:∀x∈b,∀r∈x.2,1≤r.1.length):Tot (check_First.F (c,b,())) fun y=>y.1=0↔Fi c b:=by
  rw [check_First.eq];unfold check_First.B
  have hcl:=hc.len
  have no:∀z:Int,z≠0→¬Fi c b→(z=0↔Fi c b):=fun z hz h=>⟨fun h2=>absurd h2 hz,fun h2=>absurd h2 h⟩
  refine tot_bind.2 ((clos_t c hc b hb h1).mono fun y hy=>tot_cond.2 ⟨fun e=>tot_some.2 (no _ (by simp) fun h=>?_),fun e=>?_⟩)
  · have:=hy.2 h.m
    simp [this] at e
  have hm:=hy.1 (by simpa using e)
  refine tot_j (fun _=>∀t∈tabs c,Tb t b) ?_ fun _ hx=>tot_some.2 ⟨fun _=>⟨hm,hx⟩,fun _=>rfl⟩
  refine tot_all (l:=c) (fun d=>d.1=0→Tb d.2.1 b) (fun i hi=>?_) fun h=>?_
  · have hw:wr ((i:Int)+1)=(i:Int)+1:=wr_id (by omega) (by omega)
    simp only [gt_at hi,hw]
    refine tot_cond.2 ⟨fun _=>tot_ck.2 ⟨by simp;omega,tot_cond.2 ⟨fun e=>tot_il.2 ⟨rfl,fun h=>by simp [h] at e⟩,fun e=>?_⟩⟩,fun h=>by simp at h;omega⟩
    have h0:c[i].1=0:=by simpa using e
    have ht:c[i].2.1∈tabs c:=List.mem_map.2 ⟨c[i],List.mem_filter.2 ⟨List.getElem_mem hi,by simp [h0]⟩,rfl⟩
    have hok:=tabl_ok hc ht
    have hl:∀r∈fl b c[i].2.1.1,r.1.length=c[i].2.1.2.1.length:=by
      obtain ⟨j,hj,ej⟩:=List.getElem_of_mem ht
      have hj':j<b.length:=by have:=hm.n;omega
      rw [←ej,hm.fl hc hj hj']
      intro r hr
      obtain ⟨k,hk,rfl⟩:=List.getElem_of_mem hr
      exact ((hm.m j hj' hj).r k hk).1.2.1
    refine tot_bind.2 ((table_t c[i].2.1 b hok.2.1 hok.2.2.1 hl hb h1).mono fun z hz=>tot_cond.2 ⟨fun e2=>tot_ir.2 (no _ (by simpa using e2) fun h=>?_),fun e2=>tot_il.2 ⟨rfl,fun _=>hz.1 (by simpa using e2)⟩⟩)
    have:=hz.2 (h.t _ ht)
    simp [this] at e2
  · refine tot_cond.2 ⟨fun h=>by simp at h,fun _=>tot_ir.2 fun t ht=>?_⟩
    obtain ⟨d,hd,h0,rfl⟩:=tab_mem ht
    exact h d hd h0
end Go.Proofs.Ytnhiifengimfgaa
end
section
set_option maxRecDepth 100000
namespace Go.Proofs.Ytnhiifengimfgaa
open Go Lv Go.Proofs Go.RowKit Go.Shelf
section
variable [i:Lk]
theorem fixed_t:L18_fixed.F ()=some (true,()):=by
  rcases i with ⟨⟨⟩⟩
  kernel_rfl
end
variable [Lk]
theorem times_t (rows:List tCountT) (k:Nat) (v:tValueT) (hr:rows.length≤12) (hl:∀r∈rows,k<r.1.length) (i:Nat) (hi:i<rows.length) (e:vl rows[i] k=v) (u:∀(j:Nat) (hj:j<rows.length),j≠i→vl rows[j] k≠v):
    L18_times.F (rows,(k:Int),v.1,v.2.1,v.2.2,())=some (1,()):=by
  refine Tot.is ?_
  rw [L18_times.eq];unfold L18_times.B
  refine tot_l (fun x=>rows.length-x.2.1.toNat) (fun x=>∃j:Nat,x.2.1=(j:Int)∧j≤rows.length∧x.1=if i<j then 1 else 0) ⟨0,rfl,by omega,rfl⟩ ?_
  rintro ⟨n,_,_⟩ ⟨j,rfl,j1,j2⟩
  dsimp only at j2 ⊢
  refine tot_cond.2 ⟨fun h5=>?_,fun h5=>tot_ir.2 ?_⟩
  · simp at h5
    have hw:wr ((j:Int)+1)=((j+1:Nat):Int):=by rw [wr_id (by omega) (by omega)];omega
    have hL:=hl _ (List.getElem_mem h5)
    simp only [gt_at h5,gt_nat,hw]
    refine tot_ck.2 ⟨by simp;omega,tot_ck.2 ⟨by simp;omega,tot_cond.2 ⟨fun e2=>tot_il.2 ⟨⟨j+1,rfl,h5,?_⟩,by dsimp only;omega⟩,fun e2=>tot_il.2 ⟨⟨j+1,rfl,h5,?_⟩,by dsimp only;omega⟩⟩⟩⟩
    · have:j=i:=Classical.byContradiction fun h=>u j h5 h (eqV.1 e2)
      subst this
      rw [j2,if_neg (by omega),if_pos (by omega)]
      rfl
    · have:j≠i:=fun h=>by subst h;exact neV.1 e2 e
      rw [j2]
      by_cases h:i<j
      · rw [if_pos h,if_pos (by omega)]
      · rw [if_neg h,if_neg (by omega)]
  · simp at h5
    dsimp only
    rw [j2,if_pos (by omega)]
theorem Gb.ne {c:List tDefT} {b:List tSourceT} (hc:Gc c) (hb:Gb c b):∀x∈b,∀r∈x.2,1≤r.1.length:=fun x hx r hr=>by
  obtain ⟨i,hi,rfl⟩:=List.getElem_of_mem hx
  have h':i<(tabs c).length:=by rw [←hb.n];exact hi
  have:=((hb.m i hi h').2.e r hr).2
  have:=(tabl_ok hc (List.getElem_mem h')).1
  omega
/--what holds where a law's guard lets on -/
structure Go' (c:List tDefT) (b:List tSourceT):Prop where
  gc:Gc c
  gb:Gb c b
  sb:Sb b
  fi:Fi c b
theorem Go'.row {c:List tDefT} {b:List tSourceT} (g:Go' c b) {t:tTableT} (ht:t∈tabs c):(fl b t.1).length≤12∧∀r∈fl b t.1,r.1.length=t.2.1.length:=by
  obtain ⟨j,hj,rfl⟩:=List.getElem_of_mem ht
  have hj':j<b.length:=by rw [g.gb.n];exact hj
  rw [fl_tab g.gc g.gb hj]
  exact ⟨g.sb.r _ (List.getElem_mem hj'),fun r hr=>((g.gb.m j hj' hj).2.e r hr).2⟩
theorem Go'.ref {c:List tDefT} {b:List tSourceT} (g:Go' c b) (s:ByteArray):(fl b s).length≤12∧(∀r∈fl b s,0<r.1.length)∧(fl b s).Pairwise fun q r=>fst0 q.1≠fst0 r.1:=by
  rcases fl_in b s with h|⟨x,hx,_,h⟩
  · rw [h];simp
  · rw [h]
    refine ⟨g.sb.r x hx,fun r hr=>g.gb.ne g.gc x hx r hr,?_⟩
    obtain ⟨i,hi,rfl⟩:=List.getElem_of_mem hx
    exact (g.gb.m i hi (by rw [←g.gb.n];exact hi)).2.d
theorem guard_t (c:List tDefT) (hl:c.length<1000000000000000) (hd:∀d∈c,Dn d) (b:List tSourceT) (hb:Bn b) {R:Type} {P:(Bool×Unit)⊕R→Prop} (h0:P (.inl (true,()))) (h1:Go' c b→P (.inl (false,()))):
    Tot ((L18_fixed.F (())).bind fun y1=>bif (!y1.1) then il (R:=R) (true,()) else
      (R09_Big.F (c,())).bind fun y2=>bif y2.1 then il (true,()) else
      bif (decide ((c.length:Int)>(9:Int))) then il (true,()) else
      (R12_Small.F (b,())).bind fun y3=>bif (!y3.1) then il (true,()) else
      (R17_May.F (c,b,())).bind fun y4=>bif (!y4.1) then il (true,()) else
      (check_First.F (c,b,())).bind fun y5=>il ((y5.1 !=(0:Int)),())) P:=by
  rw [fixed_t,Option.bind_some]
  refine tot_cond.2 ⟨fun h=>by simp at h,fun _=>tot_bind.2 ((rbig_t c hl hd).mono fun y hy=>tot_cond.2 ⟨fun _=>tot_il.2 h0,fun e=>tot_cond.2 ⟨fun _=>tot_il.2 h0,fun _=>?_⟩⟩)⟩
  obtain ⟨l22,hs⟩:=hy e
  refine tot_bind.2 ((rsmall_t b hb).mono fun y hy=>tot_cond.2 ⟨fun _=>tot_il.2 h0,fun e=>?_⟩)
  have hB:=hy (by simpa using e)
  refine tot_bind.2 ((rmay17_t c l22 hs b hB).mono fun y hy=>tot_cond.2 ⟨fun _=>tot_il.2 h0,fun e=>?_⟩)
  obtain ⟨hc,hG⟩:=hy (by simpa using e)
  refine tot_bind.2 ((first_t c hc b hB (hG.ne hc)).mono fun y hy=>tot_il.2 ?_)
  cases e:(y.1 !=(0:Int)) with
  |true=>exact h0
  |false=>exact h1 ⟨hc,hG,hB,hy.1 (by simpa using e)⟩
theorem rows_law (c : List tDefT) (hl : c.length < 1000000000000000) (hd : ∀ d ∈ c,Dn d) (b : List tSourceT) (hb : Bn b) : L18_CheckRows.F (c,b,()) = some (true,()) := by
  refine Tot.is ?_
  rw [L18_CheckRows.eq];unfold L18_CheckRows.B
  refine tot_j (fun x=>x.1=false→Go' c b) (guard_t c hl hd b hb (fun h=>by cases h) fun g _=>g) fun x hx=>tot_cond.2 ⟨fun _=>?_,fun e=>?_⟩
  · rw [fixed_t]
    exact tot_some.2 rfl
  have g:=hx e
  have hcl:=g.gc.len
  have htl:=tabs_len c
  have hbl:=g.sb.l
  simp only [rtabs_s c (show c.length≤1000 by omega),Option.bind_some]
  refine tot_ix (tabs c).length (fun _=>True) (fun i hi=>?_) fun _=>tot_cond.2 ⟨fun h=>by simp at h,fun _=>tot_ir.2 rfl⟩
  have hw:wr ((i:Int)+1)=(i:Int)+1:=wr_id (by omega) (by omega)
  have g2:List.getD (tabs c) (Int.toNat (i:Int)) tTable.z=(tabs c)[i]:=gt_at hi _
  have hm:=List.getElem_mem hi
  have hT:=g.fi.t _ hm
  have hok:=tabl_ok g.gc hm
  obtain ⟨hr,hrl⟩:=g.row hm
  simp only [g2,hw,rfind_s b _ (show b.length≤1000 by omega),Option.bind_some]
  generalize (tabs c)[i]=t at*
  refine tot_cond.2 ⟨fun _=>tot_j (fun _=>True) (tot_ck.2 ⟨by simp;omega,?_⟩) fun _ _=>tot_il.2 ⟨rfl,trivial⟩,fun h=>by simp at h;omega⟩
  have hK:=hT.k
  have hU:=hT.u
  have hR:=hT.r
  generalize hrows:fl b t.1=rows at*
  refine tot_ix rows.length (fun _=>True) (fun j hj=>?_) fun _=>tot_cond.2 ⟨fun h=>by simp at h,fun _=>tot_ir.2 trivial⟩
  have hw:wr ((j:Int)+1)=(j:Int)+1:=wr_id (by omega) (by omega)
  have hL:=hrl _ (List.getElem_mem hj)
  refine tot_cond.2 ⟨fun _=>tot_j (fun _=>True) ?_ fun _ _=>tot_il.2 ⟨hw,trivial⟩,fun h=>by simp at h;omega⟩
  refine tot_ix t.2.1.length (fun _=>True) (fun k hk=>?_) fun _=>tot_ck.2 ⟨by simp;omega,tot_cond.2 ⟨fun h=>by simp at h,fun _=>tot_ir.2 trivial⟩⟩
  have hw:wr ((k:Int)+1)=(k:Int)+1:=wr_id (by omega) (by omega)
  have hkk:=hK _ (List.getElem_mem hj) k hk
  have huk:=hU k hk
  have hrk:=hR k hk
  simp only [gt_at hj,gt_at hk,gt_nat,hw]
  generalize t.2.1[k]=col at*
  refine tot_ck.2 ⟨by simp;omega,tot_cond.2 ⟨fun _=>tot_ck.2 ⟨by simp;omega,tot_ck.2 ⟨by simp;omega,tot_ck.2 ⟨by simp;omega,tot_ck.2 ⟨by simp;omega,?_⟩⟩⟩⟩,fun h=>by simp at h;omega⟩⟩
  have one:(vl rows[j] k).1≠0→col.2.2.2.1=true→L18_times.F (rows,(k:Int),(vl rows[j] k).1,(vl rows[j] k).2.1,(vl rows[j] k).2.2,())=some (1,()):=fun hz hu=>by
    refine times_t rows k _ hr (fun r h=>by rw [hrl r h];exact hk) j hj rfl fun p hp hpj=>?_
    by_cases h:p<j
    · exact huk hu p j hj h hz
    · intro e
      exact huk hu j p hp (by omega) (by rw [e];exact hz) e.symm
  refine tot_j (fun x=>x.1=false) ?_ fun x hx=>tot_cond.2 ⟨fun e=>(by rw [hx] at e;cases e),fun _=>?_⟩
  · refine tot_cond.2 ⟨fun e1=>tot_cond.2 ⟨fun e2=>tot_cond.2 ⟨fun e3=>?_,fun _=>?_⟩,fun e2=>?_⟩,fun _=>?_⟩
    · rcases hkk with h|h
      · exact absurd h (by simpa using e1)
      · exact absurd h.2 (by simpa using e3)
    rotate_left 1
    · rcases hkk with h|h
      · exact absurd h (by simpa using e1)
      · rw [h.1] at e2;cases e2
    all_goals
      refine tot_cond.2 ⟨fun hu=>tot_cond.2 ⟨fun hz=>?_,fun _=>tot_il.2 rfl⟩,fun _=>tot_il.2 rfl⟩
      rw [one (by simpa using hz) hu]
      exact tot_il.2 rfl
  · refine tot_cond.2 ⟨fun e=>tot_cond.2 ⟨fun e2=>?_,fun _=>tot_il.2 ⟨rfl,trivial⟩⟩,fun _=>tot_il.2 ⟨rfl,trivial⟩⟩
    have hz:(vl rows[j] k).1≠0:=by simpa using e2
    have hne:col.2.2.2.2.1≠(⟨#[]⟩:ByteArray):=sq_no.1 (by simpa using e)
    obtain ⟨f1,f2,f3⟩:=g.ref col.2.2.2.2.1
    rcases hrk hne _ (List.getElem_mem hj) with h|⟨q,hq,eq⟩
    · rw [h] at hz
      exact absurd rfl hz
    · obtain ⟨p,hp,rfl⟩:=List.getElem_of_mem hq
      have:=times_t (fl b col.2.2.2.2.1) 0 (vl rows[j] k) f1 f2 p hp eq fun m hm hmp e=>by
        have h2:fst0 (fl b col.2.2.2.2.1)[m].1=fst0 (fl b col.2.2.2.2.1)[p].1:=e.trans eq.symm
        rcases Nat.lt_or_gt_of_ne hmp with h|h
        · exact List.pairwise_iff_getElem.1 f3 m p hm hp h h2
        · exact List.pairwise_iff_getElem.1 f3 p m hp hm h h2.symm
      rw [show ((0:Nat):Int)=0 from rfl] at this
      rw [this,Option.bind_some]
      exact tot_cond.2 ⟨fun h=>by simp at h,fun _=>tot_il.2 ⟨rfl,trivial⟩⟩
end Go.Proofs.Ytnhiifengimfgaa
end
section
set_option maxRecDepth 100000
namespace Go.Proofs.Ytnhiifengimfgaa
open Go Lv Go.Proofs Go.RowKit Go.Shelf
variable [Lk]
def wF (s:ByteArray) (l:List tCountT) (x:tSourceT):tSourceT:=bif sq x.1 s then (x.1,l) else x
/--with other rows at a name -/
def wth (b:List tSourceT) (s:ByteArray) (l:List tCountT):List tSourceT:=b.map (wF s l)
omit [Lk] in
theorem wF_n (s:ByteArray) (l:List tCountT) (x:tSourceT):(wF s l x).1=x.1:=by
  unfold wF
  cases sq x.1 s<;>rfl
omit [Lk] in
theorem wF_y {s:ByteArray} {l:List tCountT} {x:tSourceT} (h:x.1=s):(wF s l x).2=l:=by
  unfold wF
  rw [sq_iff.2 h]
  rfl
omit [Lk] in
theorem wF_o {s:ByteArray} {l:List tCountT} {x:tSourceT} (h:x.1≠s):wF s l x=x:=by
  unfold wF
  rw [sq_no.2 h]
  rfl
theorem with_s (b:List tSourceT) (s:ByteArray) (l:List tCountT) (hb:b.length≤1000):R17_With.F (b,s,l,())=some (wth b s l,()):=by
  refine Tot.is ?_
  rw [R17_With.eq];unfold R17_With.B
  refine tot_l (fun x=>b.length-x.1.toNat) (fun x=>∃i:Nat,x.1=(i:Int)∧i≤b.length∧x.2.1=wth (b.take i) s l) ⟨0,rfl,by omega,rfl⟩ ?_
  rintro ⟨_,o,_⟩ ⟨i,rfl,h1,h2⟩
  dsimp only at h2 ⊢
  subst h2
  have hl:(wth (b.take i) s l).length=i:=by simp [wth];omega
  refine tot_cond.2 ⟨fun h5=>?_,fun h5=>tot_ir.2 ?_⟩
  · simp at h5
    have hw:wr ((i:Int)+1)=((i+1:Nat):Int):=by rw [wr_id (by omega) (by omega)];omega
    simp only [gt_at h5,hw]
    have tk:wth (b.take (i+1)) s l=wth (b.take i) s l++ [wF s l b[i]]:=by
      unfold wth
      rw [←List.take_append_getElem h5,List.map_append]
      rfl
    refine tot_ck.2 ⟨by simp;omega,tot_cond.2 ⟨fun e=>tot_ck.2 ⟨by simp;omega,tot_il.2 ⟨⟨i+1,rfl,h5,?_⟩,by dsimp only;omega⟩⟩,fun e=>tot_ck.2 ⟨by simp;omega,tot_il.2 ⟨⟨i+1,rfl,h5,?_⟩,by dsimp only;omega⟩⟩⟩⟩
    · rw [tk]
      unfold wF
      rw [e]
      rfl
    · rw [tk]
      unfold wF
      rw [e]
      rfl
  · simp at h5
    rw [List.take_of_length_le (by omega)]
omit [Lk] in
theorem fl_wth {b:List tSourceT} {s u:ByteArray} {l:List tCountT} (h:u≠s):fl (wth b s l) u=fl b u:=by
  unfold fl wth
  rw [List.find?_map]
  have:((fun x:tSourceT=>sq x.1 u)∘wF s l)=fun x=>sq x.1 u:=by
    funext x
    simp only [Function.comp,wF_n]
  rw [this]
  cases e:b.find? fun x=>sq x.1 u with
  |none=>rfl
  |some x=>
    have hx:x.1=u:=sq_iff.1 (by have:=List.find?_some e;exact this)
    simp only [Option.map_some,wF_o (show x.1≠s by rw [hx];exact h)]
theorem Bk.pw {l:List tCountT} (h:Bk l):l.Pairwise fun q r=>kc q.1 r.1<0:=by
  refine List.pairwise_iff_getElem.2 fun i j hi hj hij=>?_
  have:∀n (h2:i+n+1<l.length),kc l[i].1 l[i+n+1].1<0:=by
    intro n
    induction n with
    |zero=>exact fun h2=>(h (i+1) h2).2 (by omega) (by simpa using hi)
    |succ n ih=>
      intro h2
      exact kc_trans (ih (by omega)) ((h (i+(n+1)+1) h2).2 (by omega) (by show i+n+1<l.length;omega))
  have:=this (j-i-1) (by omega)
  have e:i+(j-i-1)+1=j:=by omega
  simp only [e] at this
  exact this
theorem Bk.sub {l m:List tCountT} (h:Bk l) (hs:m.Sublist l):Bk m:=fun i hi=>by
  obtain ⟨j,hj,e⟩:=List.getElem_of_mem (hs.subset (List.getElem_mem hi))
  refine ⟨by rw [←e];exact (h j hj).1,fun h0 h1=>?_⟩
  exact List.pairwise_iff_getElem.1 (h.pw.sublist hs) (i-1) i h1 hi (by omega)
omit [Lk] in
theorem uq_pw {cs:List tColumnT} {rows:List tCountT}:Uq cs rows↔∀(k:Nat) (h:k<cs.length),cs[k].2.2.2.1=true→rows.Pairwise fun q r=>(vl r k).1≠0→vl q k≠vl r k:=by
  unfold Uq
  constructor
  · intro h k hk hu
    exact List.pairwise_iff_getElem.2 fun i j hi hj hij hz=>h k hk hu i j hj hij hz
  · intro h k hk hu i j hj hij hz
    exact List.pairwise_iff_getElem.1 (h k hk hu) i j (by omega) hj hij hz
theorem fewer_fi {c:List tDefT} {b:List tSourceT} (g:Go' c b) {s:ByteArray} {l:List tCountT} (hs:l.Sublist (fl b s)) (hr:∀t∈tabs c,∀col∈t.2.1,col.2.2.2.2.1≠s):
    Sb (wth b s l)∧(∀x∈wth b s l,∀r∈x.2,1≤r.1.length)∧Fi c (wth b s l):=by
  have len:(wth b s l).length=b.length:=by unfold wth;simp
  have key:∀(i:Nat) (hi:i<b.length),((wF s l b[i]).2).Sublist b[i].2:=fun i hi=>by
    by_cases e:b[i].1=s
    · rw [wF_y e]
      have ht:i<(tabs c).length:=by rw [←g.gb.n];exact hi
      have:=fl_tab g.gc g.gb ht
      rw [←(g.gb.m i hi ht).1,e] at this
      rw [this] at hs
      exact hs
    · rw [wF_o e]
      exact List.Sublist.refl _
  have at_:∀(i:Nat) (hi:i<(wth b s l).length),(wth b s l)[i]=wF s l (b[i]'(by rw [←len];exact hi)):=fun i hi=>List.getElem_map (wF s l)
  have mem:∀x∈wth b s l,∃y∈b,x.1=y.1∧x.2.Sublist y.2:=fun x hx=>by
    obtain ⟨i,hi,rfl⟩:=List.getElem_of_mem hx
    have hi':i<b.length:=by rw [←len];exact hi
    rw [at_ i hi]
    exact ⟨b[i],List.getElem_mem hi',wF_n _ _ _,key i hi'⟩
  have hSb:Sb (wth b s l):=⟨by rw [len];exact g.sb.l,fun x hx=>by
    obtain ⟨y,hy,_,h⟩:=mem x hx
    exact Nat.le_trans h.length_le (g.sb.r y hy),fun x hx r hr=>by
    obtain ⟨y,hy,_,h⟩:=mem x hx
    exact g.sb.k y hy r (h.subset hr)⟩
  refine ⟨hSb,fun x hx r hr=>by
    obtain ⟨y,hy,_,h⟩:=mem x hx
    exact g.gb.ne g.gc y hy r (h.subset hr),?_⟩
  have hCm:Cm c (wth b s l):=by
    refine ⟨g.fi.m.s,by rw [len];exact g.fi.m.n,fun i h h'=>?_⟩
    have hi:i<b.length:=by rw [←len];exact h
    have old:=g.fi.m.m i hi h'
    have rw':=(g.gb.m i hi h').2
    rw [at_ i h]
    have sub:=key i hi
    refine ⟨by rw [wF_n];exact old.n,old.b.sub sub,fun j hj=>?_⟩
    obtain ⟨k,hk,ek⟩:=List.getElem_of_mem (sub.subset (List.getElem_mem hj))
    refine ⟨by rw [←ek];exact (old.r k hk).1,fun h0 h1=>?_⟩
    exact List.pairwise_iff_getElem.1 (rw'.d.sublist sub) (j-1) j h1 hj (by omega)
  refine ⟨hCm,fun t ht=>?_⟩
  have old:=g.fi.t t ht
  have hcol:=hr t ht
  obtain ⟨j,hj,rfl⟩:=List.getElem_of_mem ht
  have hj':j<b.length:=by rw [g.gb.n];exact hj
  have e1:=fl_tab g.gc g.gb hj
  have e2:=hCm.fl g.gc hj (by rw [len];exact hj')
  rw [at_ j (by rw [len];exact hj')] at e2
  have sub:=key j hj'
  rw [←e1,←e2] at sub
  refine ⟨fun r hr=>old.k r (sub.subset hr),uq_pw.2 fun k hk hu=>(uq_pw.1 old.u k hk hu).sublist sub,fun k hk hne r hr=>?_,fun e he r hr=>old.c e he r (sub.subset hr)⟩
  rw [fl_wth (hcol _ (List.getElem_mem hk))]
  exact old.r k hk hne r (sub.subset hr)
theorem fewer_law (c:List tDefT) (hl:c.length<1000000000000000) (hd:∀d∈c,Dn d) (b:List tSourceT) (hb:Bn b) (s:ByteArray) (n:Int):L18_CheckFewer.F (c,b,s,n,())=some (true,()):=by
  refine Tot.is ?_
  rw [L18_CheckFewer.eq];unfold L18_CheckFewer.B
  refine tot_j (fun x=>x.1=false→Go' c b) (guard_t c hl hd b hb (fun h=>by cases h) fun g _=>g) fun x hx=>tot_cond.2 ⟨fun _=>?_,fun e=>?_⟩
  · rw [fixed_t]
    exact tot_some.2 rfl
  have g:=hx e
  have hcl:=g.gc.len
  have htl:=tabs_len c
  have hbl:=g.sb.l
  simp only [rtabs_s c (show c.length≤1000 by omega),Option.bind_some]
  refine tot_j (fun _=>∀t∈tabs c,∀col∈t.2.1,col.2.2.2.2.1≠s) ?_ fun _ hr=>?_
  · refine tot_all (l:=tabs c) (fun t=>∀col∈t.2.1,col.2.2.2.2.1≠s) (fun i hi=>?_) fun h=>tot_cond.2 ⟨fun h=>by simp at h,fun _=>tot_ir.2 h⟩
    have hw:wr ((i:Int)+1)=(i:Int)+1:=wr_id (by omega) (by omega)
    have g2:List.getD (tabs c) (Int.toNat (i:Int)) tTable.z=(tabs c)[i]:=gt_at hi _
    have hok:=tabl_ok g.gc (List.getElem_mem hi)
    simp only [g2,hw]
    generalize (tabs c)[i]=t at*
    refine tot_cond.2 ⟨fun _=>tot_j (fun _=>∀col∈t.2.1,col.2.2.2.2.1≠s) ?_ fun _ h=>tot_il.2 ⟨rfl,h⟩,fun h=>by simp at h;omega⟩
    refine tot_all (l:=t.2.1) (fun col=>col.2.2.2.2.1≠s) (fun k hk=>?_) fun h=>tot_ck.2 ⟨by simp;omega,tot_cond.2 ⟨fun h=>by simp at h,fun _=>tot_ir.2 h⟩⟩
    have hw:wr ((k:Int)+1)=(k:Int)+1:=wr_id (by omega) (by omega)
    simp only [gt_at hk,hw]
    exact tot_ck.2 ⟨by simp;omega,tot_cond.2 ⟨fun _=>tot_ck.2 ⟨by simp;omega,tot_ck.2 ⟨by simp;omega,tot_cond.2 ⟨fun _=>tot_ir.2 rfl,fun e=>tot_il.2 ⟨rfl,sq_no.1 e⟩⟩⟩⟩,fun h=>by simp at h;omega⟩⟩
  simp only [rfind_s b _ (show b.length≤1000 by omega),Option.bind_some]
  have hf:=(g.ref s).1
  refine tot_cond.2 ⟨fun _=>tot_some.2 rfl,fun h1=>tot_cond.2 ⟨fun _=>tot_some.2 rfl,fun h2=>?_⟩⟩
  simp at h1 h2
  have hw:wr (n+1)=n+1:=wr_id (by omega) (by omega)
  simp only [hw]
  refine tot_ck.2 ⟨by simp;omega,tot_ck.2 ⟨by simp;omega,tot_ck.2 ⟨by simp;omega,tot_ck.2 ⟨by simp;omega,?_⟩⟩⟩⟩
  have e1:(([]:List tCountT)++List.drop (Int.toNat (0:Int)) (List.take (Int.toNat n) (fl b s)))++List.drop (Int.toNat (n+1)) (List.take (Int.toNat ((fl b s).length:Int)) (fl b s))=List.take n.toNat (fl b s)++List.drop (n+1).toNat (fl b s):=by
    rw [Int.toNat_natCast,List.take_length]
    rfl
  rw [e1,with_s b s _ (by omega),Option.bind_some]
  have hsub:(List.take n.toNat (fl b s)++List.drop (n+1).toNat (fl b s)).Sublist (fl b s):=by
    have e2:(n+1).toNat=n.toNat+1:=by omega
    rw [e2,←List.eraseIdx_eq_take_drop_succ]
    exact List.eraseIdx_sublist _ _
  obtain ⟨f1,f2,f3⟩:=fewer_fi g hsub hr
  refine tot_bind.2 ((first_t c g.gc _ f1 f2).mono fun y hy=>tot_some.2 ?_)
  have:=hy.2 f3
  simp [this]
end Go.Proofs.Ytnhiifengimfgaa
end
section
set_option maxRecDepth 100000
namespace Go.Proofs.Ytnhiifengimfgaa
open Go Lv Go.Proofs Go.RowKit Go.Shelf
variable [Lk]
omit [Lk] in
theorem len_b {t n:Nat} (h0:Nat.blt 0 (PP.bytesOf t)=true) (h:n*PP.bytesOf t≤reachBytes):n<1000000000000000:=by
  have h0:0<PP.bytesOf t:=Nat.le_of_ble_eq_true h0
  have:n*1≤n*PP.bytesOf t:=Nat.mul_le_mul_left n h0
  unfold reachBytes at h
  omega
omit [Lk] in
theorem i64_in {n:Int} (h:(Lit.int .i64 n).wf=true):I64 n:=by
  simp only [Lit.wf,Bool.and_eq_true,decide_eq_true_eq] at h
  have hm:IntKind.i64.min=-9223372036854775808:=by decide
  have hM:IntKind.i64.max=9223372036854775807:=by decide
  constructor<;>omega
theorem in_dn {d:tDefT} (h:In PP tDef d):Dn d:=by
  simp only [In] at h
  obtain ⟨h1,⟨h2,⟨h3,h3'⟩,h4,h4'⟩,h5,h6,h7,h8,⟨h9,h9'⟩,⟨h10,h10'⟩,_,h12,h12'⟩:=h
  exact ⟨len_b (by kernel_rfl) h3,len_b (by kernel_rfl) h4,fun e he=>len_b (by kernel_rfl) (h4' e he).1,len_b (by kernel_rfl) h9,len_b (by kernel_rfl) h10,len_b (by kernel_rfl) h12,
    fun e he n hn=>⟨i64_in ((h4' e he).2 n hn).2.1,i64_in ((h4' e he).2 n hn).2.2.2.1⟩,fun n hn=>⟨i64_in (h9' n hn).2.1,i64_in (h9' n hn).2.2.2.1⟩,i64_in h8.1,i64_in h8.2,fun n hn=>i64_in (h10' n hn),fun x hx=>i64_in (h12' x hx).2⟩
theorem in_bn {b:List tSourceT} (h:In PP (.sl 72 tSource) b):Bn b:=by
  simp only [In] at h
  exact ⟨len_b (by kernel_rfl) h.1,fun x hx r hr=>len_b (by kernel_rfl) ((h.2 x hx).2.2 r hr).1.1⟩
theorem pure3 (x:ArgT [(.sl 69 tDef,false),(.sl 72 tSource,false)]) (h:argIn Tryz.prog [(.sl 69 tDef,false),(.sl 72 tSource,false)] x):L18_CheckRows.F (argX 0 [(.sl 69 tDef,false),(.sl 72 tSource,false)] x)=some (true,()):=by
  obtain ⟨c,b,u⟩:=x
  obtain ⟨⟨hc,hc'⟩,hb,_⟩:=h
  exact rows_law c (len_b (by kernel_rfl) hc) (fun d hd=>in_dn (hc' d hd)) b (in_bn hb)
theorem pure4 (x:ArgT [(.sl 69 tDef,false),(.sl 72 tSource,false),(.pair .str (.int .i64),true)]) (h:argIn Tryz.prog [(.sl 69 tDef,false),(.sl 72 tSource,false),(.pair .str (.int .i64),true)] x):L18_CheckFewer.F (argX 0 [(.sl 69 tDef,false),(.sl 72 tSource,false),(.pair .str (.int .i64),true)] x)=some (true,()):=by
  obtain ⟨c,b,⟨s,n⟩,u⟩:=x
  obtain ⟨⟨hc,hc'⟩,hb,_⟩:=h
  exact fewer_law c (len_b (by kernel_rfl) hc) (fun d hd=>in_dn (hc' d hd)) b (in_bn hb) s n
theorem rows_ok:SpecOk Tryz.prog 3 ⟨2,L18_CheckRows.d.si,L18_CheckRows.d.so,L18_CheckRows.F⟩:=L18_CheckRows.k.ok (by first|exact L18_times.c|exact check_First.c) mixed
theorem fewer_ok:SpecOk Tryz.prog 4 ⟨3,L18_CheckFewer.d.si,L18_CheckFewer.d.so,L18_CheckFewer.F⟩:=L18_CheckFewer.k.ok R17_With.c mixed
end Go.Proofs.Ytnhiifengimfgaa
end
