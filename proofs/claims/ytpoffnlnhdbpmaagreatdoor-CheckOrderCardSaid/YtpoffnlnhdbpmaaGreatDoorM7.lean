import Derived.Test.YtpoffnlnhdbpmaaGreatDoorM6
import Derived.Sort.Walk0
import Derived.Lib.SlicesS
set_option linter.all false
set_option linter.unusedVariables false
set_option linter.unusedSimpArgs false
set_option linter.unusedSectionVars false
section
set_option maxRecDepth 100000
namespace Go.Proofs.Ytpoffnlnhdbpmaa
open Go Lv Go.Proofs Go.RowKit Go.Shelf
variable [Lk]
variable {n:Nat} {L:List aU}
theorem wV (h:Pt n L):Tot (bf.F (L,())) (Tl fun y=>True):=by
 rw [bf.eq];unfold bf.B bf.b
 have:=h.2.1
 refine fI _ (mh h) (fun y hy=>?_) fun _=>tlr
 refine af.2 ((gQ _ (by simp) (by simp) hy.1).mono fun a ha=>?_)
 refine fI _ (gC _) (fun _ _=>?_) fun _=>tlr
 refine aR (fun x=>x.2.1.length=1∧x.2.2.1.length=0∧Pt 20000 x.2.2.2.1) ?_ ?_
 ·refine im.2 (fI _ (sV ha.1) (fun y hy=>?_) fun _=>aE.2 trivial)
  exact im.2 (ai.2 ⟨by simp,im.2 (ak.2 ⟨rfl,rfl,hy.1.le (by omega) (by omega)⟩)⟩)
 rintro ⟨a1,a2,a3,o,_⟩ ⟨h1,h2,h3⟩
 dsimp only at h1 h2 h3 ⊢
 refine cW (fun x=>x.2.2.2.2.1.length) (fun x=>0≤x.1∧x.1≤40∧(x.2.2.1.length:Int)=x.1∧x.2.2.2.1.length=0∧Pt 20000 x.2.2.2.2.1) ⟨by simp,by simp,by dsimp only;omega,h2,h3⟩ ?_
 rintro ⟨i,b1,b2,b3,p,_⟩ ⟨i1,i2,i3,i4,i5⟩
 dsimp only at i1 i2 i3 i4 i5 ⊢
 have:=i5.1
 refine af.2 ((gQ _ (by simp) (by simp) i5.own).mono fun z hz=>ac.2 ⟨fun e=>?_,fun _=>?_⟩)
 ·have hw:wr (i+1)=i+1:=bF (by omega) (by omega)
  have hz:=hz.2 e
  simp only [hw]
  refine fI _ (gC _) (fun _ h6=>?_) fun _=>aE.2 trivial
  simp at h6
  refine im.2 (fI _ (sV hz.1) (fun y hy=>?_) fun _=>aE.2 trivial)
  have:=hy.1.1
  refine im.2 (ai.2 ⟨by simp;omega,im.2 (ak.2 ⟨⟨by dsimp only;omega,by dsimp only;omega,by simp;omega,i4,hy.1.le (by omega) (by omega)⟩,by dsimp only;omega⟩)⟩)
 ·refine iA.2 (af.2 ((gQ _ (by simp) (by simp) hz.1).mono fun u hu=>?_))
  refine fI _ (gC _) (fun _ _=>?_) fun _=>tlr
  refine aR (fun _=>True) ?_ fun _ _=>ah.2 trivial
  refine cW (fun x=>x.1.length) (fun x=>Pt 20000 x.1∧x.2.2.2.1.length≤40) ⟨hu.1.le (by omega) (by omega),by dsimp only;omega⟩ ?_
  rintro ⟨q,c1,c2,c3,_⟩ ⟨j1,j2⟩
  dsimp only at j1 j2 ⊢
  have:=j1.1
  refine af.2 ((gQ _ (by simp) (by simp) j1.own).mono fun z hz=>ac.2 ⟨fun e=>?_,fun _=>aE.2 trivial⟩)
  have hz:=hz.2 e
  refine aR (fun x=>x.1.length<q.length∧Pt 20000 x.1∧x.2.2.2.1.length≤41) ?_ ?_
  ·refine im.2 (fI _ (sW hz.1) (fun y hy=>?_) fun _=>aE.2 trivial)
   have:=hy.1
   refine im.2 (ai.2 ⟨by simp;omega,im.2 (ak.2 ⟨by dsimp only;omega,hy.le (by omega) (by omega),by simp;omega⟩)⟩)
  ·rintro ⟨r,d1,d2,d3,_⟩ ⟨k1,k2,k3⟩
   refine fI _ (gC _) (fun _ h6=>?_) fun _=>aE.2 trivial
   exact ak.2 ⟨⟨k2,by simp at h6;dsimp only;omega⟩,k1⟩
theorem yN (h:Pt n L):Tot (ae.F (L,())) (Tl fun y=>True):=by
 rw [ae.eq];unfold ae.B ae.b
 have:=h.2.1
 refine fI _ (mh h) (fun y hy=>?_) fun _=>tlr
 refine af.2 ((gQ _ (by simp) (by simp) hy.1).mono fun a ha=>fI _ (gC _) (fun _ _=>?_) fun _=>tlr)
 refine fI _ (mh ha.1) (fun b hb=>?_) fun _=>tlr
 refine aR (fun x=>Pt 20000 x.1∧x.2.2.2.2.2.2.2.2.1.length=0∧x.2.2.2.2.2.2.2.2.2.1.length=0) ?_ ?_
 ·refine af.2 ((gQ _ (by simp) (by simp) hb.1).mono fun c hc=>ac.2 ⟨fun _=>?_,fun _=>ak.2 ⟨hc.1.le (by omega) (by omega),rfl,rfl⟩⟩)
  refine fI _ (mh hc.1) (fun d hd=>?_) fun _=>aE.2 trivial
  refine af.2 ((gQ _ (by simp) (by simp) hd.1).mono fun e he=>fI _ (gC _) (fun _ _=>?_) fun _=>aE.2 trivial)
  refine fI _ (nN he.1) (fun f hf=>ai.2 ⟨by decide,?_⟩) fun _=>aE.2 trivial
  refine af.2 ((gQ _ (by simp) (by simp) hf.1).mono fun e he=>fI _ (gC _) (fun _ _=>?_) fun _=>aE.2 trivial)
  refine fI _ (nN he.1) (fun f hf=>ai.2 ⟨by decide,ak.2 ⟨hf.1.le (by omega) (by omega),rfl,rfl⟩⟩) fun _=>aE.2 trivial
 rintro ⟨o,a1,a2,a3,a4,a5,a6,a7,a8,a9,_⟩ ⟨h1,h2,h3⟩
 dsimp only at h1 h2 h3 ⊢
 refine aR (fun x=>Pt 20000 x.1∧x.2.2.2.2.2.2.2.2.1.length=0∧x.2.2.2.2.2.2.2.2.2.1.length=0) ?_ ?_
 ·refine af.2 ((gQ _ (by simp) (by simp) h1).mono fun c hc=>ac.2 ⟨fun _=>?_,fun _=>ak.2 ⟨hc.1,h2,h3⟩⟩)
  exact fI _ (sW hc.1) (fun d hd=>ak.2 ⟨hd,h2,h3⟩) fun _=>aE.2 trivial
 rintro ⟨o,a1,a2,a3,a4,a5,a6,a7,a8,a9,_⟩ ⟨h1,h2,h3⟩
 dsimp only at h1 h2 h3 ⊢
 refine af.2 ((gQ _ (by simp) (by simp) h1).mono fun a ha=>fI _ (gC _) (fun _ _=>?_) fun _=>tlr)
 refine aR (fun x=>Pt 20000 x.1∧x.2.2.2.2.2.2.2.2.2.1.length=0) ?_ ?_
 ·refine ac.2 ⟨fun _=>af.2 ((BK _ (by simp) ha.1).mono fun b hb=>?_),fun _=>ak.2 ⟨ha.1,h3⟩⟩
  obtain ⟨b1,b2,_⟩:=b
  dsimp only at hb ⊢
  obtain ⟨rfl,_⟩:=hb
  refine ac.2 ⟨fun _=>?_,fun _=>ak.2 ⟨ha.1,h3⟩⟩
  refine aR (fun x=>x.2.2.2.2.2.2.2.1.length=1∧x.2.2.2.2.2.2.2.2.1.length=0∧Pt 20000 x.2.2.2.2.2.2.2.2.2.1) ?_ ?_
  ·refine im.2 (fI _ (nN ha.1) (fun y hy=>?_) fun _=>aE.2 trivial)
   refine im.2 (ai.2 ⟨by simp;omega,im.2 (ak.2 ⟨by dsimp only;rw [List.length_append,h2];rfl,h3,hy.1.le (by omega) (by omega)⟩)⟩)
  rintro ⟨c1,c2,c3,c4,c5,c6,c7,c8,c9,q,_⟩ ⟨k1,k2,k3⟩
  dsimp only at k1 k2 k3 ⊢
  refine cW (fun x=>x.2.2.2.2.2.2.2.2.2.2.1.length) (fun x=>0≤x.1∧x.1≤40∧(x.2.2.2.2.2.2.2.2.1.length:Int)=x.1∧x.2.2.2.2.2.2.2.2.2.1.length=0∧Pt 20000 x.2.2.2.2.2.2.2.2.2.2.1) ⟨by simp,by simp,by dsimp only;omega,k2,k3⟩ ?_
  rintro ⟨i,d1,d2,d3,d4,d5,d6,d7,d8,d9,r,_⟩ ⟨i1,i2,i3,i4,i5⟩
  dsimp only at i1 i2 i3 i4 i5 ⊢
  have:=i5.1
  refine af.2 ((gQ _ (by simp) (by simp) i5.own).mono fun z hz=>ac.2 ⟨fun e=>?_,fun _=>aE.2 ⟨hz.1.le (by omega) (by omega),i4⟩⟩)
  have hw:wr (i+1)=i+1:=bF (by omega) (by omega)
  have hz:=hz.2 e
  simp only [hw]
  refine fI _ (gC _) (fun _ h6=>?_) fun _=>aE.2 trivial
  simp at h6
  refine im.2 (fI _ (nN hz.1) (fun y hy=>?_) fun _=>aE.2 trivial)
  have:=hy.1.1
  refine im.2 (ai.2 ⟨by simp;omega,im.2 (ak.2 ⟨⟨by dsimp only;omega,by dsimp only;omega,by simp;omega,i4,hy.1.le (by omega) (by omega)⟩,by dsimp only;omega⟩)⟩)
 rintro ⟨o,a1,a2,a3,a4,a5,a6,a7,a8,a9,_⟩ ⟨h1,h3⟩
 dsimp only at h1 h3 ⊢
 refine af.2 ((gQ _ (by simp) (by simp) h1).mono fun a ha=>ac.2 ⟨fun _=>ac.2 ⟨fun _=>?_,fun _=>ah.2 trivial⟩,fun _=>ah.2 trivial⟩)
 refine aR (fun x=>x.2.2.2.2.2.2.2.2.1.length=1∧Pt 20000 x.2.2.2.2.2.2.2.2.2.1) ?_ ?_
 ·refine fI _ (pp _ (by simp) ha.1) (fun y hy=>?_) fun _=>aE.2 trivial
  refine ac.2 ⟨fun _=>fI _ (nN hy) (fun z hz=>ai.2 ⟨by simp;omega,ak.2 ⟨by dsimp only;rw [List.length_append,h3];rfl,hz.1.le (by omega) (by omega)⟩⟩) fun _=>aE.2 trivial,fun _=>ai.2 ⟨by simp;omega,ak.2 ⟨by dsimp only;rw [List.length_append,h3];rfl,hy⟩⟩⟩
 rintro ⟨c1,c2,c3,c4,c5,c6,c7,c8,c9,q,_⟩ ⟨k1,k3⟩
 dsimp only at k1 k3 ⊢
 refine cW (fun x=>x.2.2.2.2.2.2.2.2.2.2.1.length) (fun x=>0≤x.1∧x.1≤40∧(x.2.2.2.2.2.2.2.2.2.1.length:Int)=x.1∧Pt 20000 x.2.2.2.2.2.2.2.2.2.2.1) ⟨by simp,by simp,by dsimp only;omega,k3⟩ ?_
 rintro ⟨i,d1,d2,d3,d4,d5,d6,d7,d8,d9,r,_⟩ ⟨i1,i2,i3,i5⟩
 dsimp only at i1 i2 i3 i5 ⊢
 have:=i5.1
 refine af.2 ((gQ _ (by simp) (by simp) i5.own).mono fun z hz=>ac.2 ⟨fun e=>?_,fun _=>aE.2 trivial⟩)
 have hw:wr (i+1)=i+1:=bF (by omega) (by omega)
 have hz:=hz.2 e
 simp only [hw]
 refine fI _ (gC _) (fun _ h6=>?_) fun _=>aE.2 trivial
 simp at h6
 refine fI _ (pp _ (by simp) hz.1) (fun y hy=>?_) fun _=>aE.2 trivial
 have:=hy.1
 refine ac.2 ⟨fun _=>fI _ (nN hy) (fun u hu=>?_) fun _=>aE.2 trivial,fun _=>?_⟩
 ·have:=hu.1.1
  exact ai.2 ⟨by simp;omega,ak.2 ⟨⟨by dsimp only;omega,by dsimp only;omega,by simp;omega,hu.1.le (by omega) (by omega)⟩,by dsimp only;omega⟩⟩
 ·exact ai.2 ⟨by simp;omega,ak.2 ⟨⟨by dsimp only;omega,by dsimp only;omega,by simp;omega,hy.le (by omega) (by omega)⟩,by dsimp only;omega⟩⟩
theorem yO (s:ByteArray) (h:s.size≤1000000000000):Tot (cj.F (s,())) fun _=>True:=by
 rw [cj.eq];unfold cj.B
 refine af.2 ((lex_p s h).mono fun y hy=>ac.2 ⟨fun _=>ah.2 trivial,fun _=>?_⟩)
 refine fI _ (pp _ (by simp) hy) (fun z hz=>?_) fun _=>ah.2 trivial
 refine ac.2 ⟨fun _=>fI _ (wV hz) (fun u _=>fI _ (gC _) (fun _ _=>ah.2 trivial) fun _=>ah.2 trivial) fun _=>ah.2 trivial,fun _=>fI _ (yN hz) (fun u _=>fI _ (gC _) (fun _ _=>ah.2 trivial) fun _=>ah.2 trivial) fun _=>ah.2 trivial⟩
end Go.Proofs.Ytpoffnlnhdbpmaa
end
section
set_option maxRecDepth 100000
namespace Go.Proofs.Ytpoffnlnhdbpmaa
open Go Lv Go.Proofs Go.RowKit Go.Shelf
variable [Lk]
theorem yP (p q:List ao) (h:p.length≤1000):Tot (au.F (p,q,())) fun _=>True:=by
 rw [au.eq];unfold au.B
 refine ac.2 ⟨fun _=>by simp,fun h2=>ic p.length fun i h0 h1=>?_⟩
 simp at h2
 simp [eu];omega
theorem BL (p q:List aC) (h:p.length≤1000):Tot (aj.F (p,q,())) fun _=>True:=by
 rw [aj.eq];unfold aj.B
 refine ac.2 ⟨fun _=>by simp,fun h2=>ic p.length fun i h0 h1=>?_⟩
 simp at h2
 simp [eu];omega
theorem BM (p q:List Int) (h:p.length≤1000):Tot (aW.F (p,q,())) fun _=>True:=by
 rw [aW.eq];unfold aW.B
 refine ac.2 ⟨fun _=>by simp,fun h2=>ic p.length fun i h0 h1=>?_⟩
 simp at h2
 simp [eu];omega
theorem BN (p q:List cH) (h:p.length≤1000):Tot (av.F (p,q,())) fun _=>True:=by
 rw [av.eq];unfold av.B
 refine ac.2 ⟨fun _=>by simp,fun h2=>ic p.length fun i h0 h1=>?_⟩
 simp at h2
 simp [eu];omega
theorem AL (d:bx) (h:Sd d) (q0:Int) (q1:ByteArray) (q2:List aC) (q3:List (List ao)) (q4 q5 q6:ByteArray) (q7 q8:Int) (q9:List ao) (q10:List Int) (q11:Bool) (q12:List cH):
 Tot (fa.F (d.1,d.2.1.1,d.2.1.2.1,d.2.1.2.2,d.2.2.1,d.2.2.2.1,d.2.2.2.2.1,d.2.2.2.2.2.1.1,d.2.2.2.2.2.1.2,d.2.2.2.2.2.2.1,d.2.2.2.2.2.2.2.1,d.2.2.2.2.2.2.2.2.1,d.2.2.2.2.2.2.2.2.2,q0,q1,q2,q3,q4,q5,q6,q7,q8,q9,q10,q11,q12,())) fun _=>True:=by
 rw [fa.eq];unfold fa.B
 have hc:d.2.1.2.1.length≤1000:=by have:=h.s1;omega
 have he:d.2.2.2.2.2.2.1.length≤1000:=by have:=h.s4.1;omega
 have hp:d.2.2.2.2.2.2.2.1.length≤1000:=by have:=h.s5;omega
 have ha:d.2.2.2.2.2.2.2.2.2.length≤1000:=by have:=h.s6;omega
 have h2:=h.s2
 refine ac.2 ⟨fun _=>?_,fun hl=>ic d.2.1.2.2.length fun i h0 h1=>ac.2 ⟨fun h5=>?_,fun h5=>iA.2 ?_⟩⟩
 rotate_left 1
 ·simp at hl h5
  have hw:wr (i+1)=i+1:=bF (by omega) (by omega)
  refine ai.2 ⟨by simp;omega,ai.2 ⟨by simp;omega,?_⟩⟩
  refine aR (fun _=>True) ?_ fun _ _=>ac.2 ⟨fun _=>iA.2 ?_,fun _=>by simp [hw];omega⟩
  ·rw [dZ.eq];unfold dZ.B
   refine af.2 (af.2 ((yP _ _ ?_).mono fun _ _=>ah.2 (ak.2 trivial)))
   have:=(h.s3 _ (fJ (z:=[]) h0 h5)).1
   omega
  ·refine aR (fun _=>True) ?_ fun _ _=>aR (fun _=>True) ?_ fun _ _=>?_
   all_goals repeat' first|exact ak.2 trivial|exact ah.2 trivial|refine ac.2 ⟨fun _=>?_,fun _=>?_⟩|refine af.2 ((BL _ _ hc).mono fun _ _=>?_)|refine af.2 ((yP _ _ he).mono fun _ _=>?_)|refine af.2 ((BM _ _ hp).mono fun _ _=>?_)|refine af.2 ((BN _ _ ha).mono fun _ _=>?_)
 all_goals
  refine aR (fun _=>True) ?_ fun _ _=>aR (fun _=>True) ?_ fun _ _=>?_
  all_goals repeat' first|exact ak.2 trivial|exact ah.2 trivial|refine ac.2 ⟨fun _=>?_,fun _=>?_⟩|refine af.2 ((BL _ _ hc).mono fun _ _=>?_)|refine af.2 ((yP _ _ he).mono fun _ _=>?_)|refine af.2 ((BM _ _ hp).mono fun _ _=>?_)|refine af.2 ((BN _ _ ha).mono fun _ _=>?_)
theorem Cw (d:bx) (h:Sd d):Tot (gn.F (d.1,d.2.1.1,d.2.1.2.1,d.2.1.2.2,d.2.2.1,d.2.2.2.1,d.2.2.2.2.1,d.2.2.2.2.2.1.1,d.2.2.2.2.2.1.2,d.2.2.2.2.2.2.1,d.2.2.2.2.2.2.2.1,d.2.2.2.2.2.2.2.2.1,d.2.2.2.2.2.2.2.2.2,())) fun _=>True:=by
 rw [gn.eq];unfold gn.B
 rw [eT.eq];unfold eT.B
 refine af.2 (Tot.mono (P:=fun _=>True) ?_ fun _ _=>ah.2 trivial)
 refine aR (fun x=>Wd 100000 x.1) ?_ fun x hx=>?_
 ·refine ac.2 ⟨fun _=>af.2 ((sU _ _ _ h.n1 h.s1 h.c h.s2 h.s3).mono fun y hy=>ak.2 hy),fun _=>af.2 ((vy _ _ _ _ _ _ _ _ _ h.n2 h.n3 h.n4 h.o1 h.o2 h.s4 h.s5 h.p h.s6 h.g).mono fun y hy=>ak.2 hy)⟩
 ·refine af.2 ((uu _ 100000 (by omega) hx 5000 (by omega) hx.2).mono fun y hy=>ac.2 ⟨fun _=>ah.2 trivial,fun e=>?_⟩)
  simp at e
  refine af.2 ((yO _ (by omega)).mono fun z _=>ac.2 ⟨fun _=>ah.2 trivial,fun _=>?_⟩)
  exact af.2 ((AL d h _ _ _ _ _ _ _ _ _ _ _ _ _).mono fun u _=>ac.2 ⟨fun _=>ah.2 trivial,fun _=>ah.2 trivial⟩)
end Go.Proofs.Ytpoffnlnhdbpmaa
end
section
set_option maxRecDepth 100000
namespace Go.Proofs.Ytpoffnlnhdbpmaa
open Go Lv Go.Proofs Go.RowKit Go.Shelf
variable [Lk]
theorem sX (o:Int):Tot (dG.F (o,())) fun y=>y.1≤2∧((o=5∨o=6)→y.1=2):=by
 rw [dG.eq];unfold dG.B
 refine aR (fun x=>x.1=true→o=0∨o=1) (by simp<;>omega) fun x hx=>ac.2 ⟨fun e=>ah.2 ⟨by simp,fun h=>by have:=hx e;omega⟩,fun _=>?_⟩
 refine aR (fun x=>x.1=true→o=9∨o=10) (by simp<;>omega) fun x hx=>ac.2 ⟨fun e=>ah.2 ⟨by simp,fun h=>by have:=hx e;omega⟩,fun _=>?_⟩
 simp
 omega
theorem Cy (ok:Bool) (ks st:List Int) (h:st.length≤100000):Tot (bt.F (ok,ks,st,())) fun y=>y.2.2.2.1.length≤st.length:=by
 rw [bt.eq];unfold bt.B
 refine ac.2 ⟨fun _=>by simp,fun e=>?_⟩
 simp at e
 have:st.length≠0:=fun h=>e (List.length_eq_zero_iff.1 h)
 have hw:wr ((st.length:Int)-1)=(st.length:Int)-1:=bF (by omega) (by omega)
 simp only [hw]
 exact ai.2 ⟨by simp;omega,ai.2 ⟨by simp;omega,ah.2 (by simp)⟩⟩
theorem AM (k:Int) (ok:Bool) (ks st:List Int) (h:st.length≤100000):Tot (bn.F (k,ok,ks,st,())) fun y=>y.2.2.1.length=st.length+1:=by
 rw [bn.eq];unfold bn.B
 simp
 omega
theorem Cz (k:Int) (l:List Int) (h:l.length≤1000):Tot (eB.F (k,l,())) fun _=>True:=by
 rw [eB.eq];unfold eB.B
 refine ic l.length fun i h0 h1=>?_
 simp [eu]
 omega
theorem qm (o:Int) (l:List Int) (h:l.length≤1000) (h2:(o=5∨o=6)→l.length=2):Tot (cQ.F (o,l,())) fun _=>True:=by
 rw [cQ.eq];unfold cQ.B
 have al:∀k (b:Int),Tot (Option.bind (eB.F (k,l,())) fun y=>some (b,y.1,())) fun _=>True:=fun k b=>af.2 ((Cz k l h).mono fun _ _=>ah.2 trivial)
 refine aR (fun _=>True) (by simp) fun x _=>ac.2 ⟨fun _=>al _ _,fun _=>?_⟩
 refine aR (fun x=>x.1=true→o=5∨o=6) (by simp<;>omega) fun x hx=>ac.2 ⟨fun e=>?_,fun _=>?_⟩
 ·have:=h2 (hx e)
  simp
  omega
 ·exact ac.2 ⟨fun _=>ac.2 ⟨fun _=>al _ _,fun _=>by simp⟩,fun _=>ac.2 ⟨fun _=>ac.2 ⟨fun _=>al _ _,fun _=>by simp⟩,fun _=>ac.2 ⟨fun _=>al _ _,fun _=>by simp⟩⟩⟩
theorem yQ (a b c d:Int) (s:ByteArray) (ok:Bool) (ks st:List Int) (h:st.length≤10000):Tot (b8.F (a,b,c,d,s,ok,ks,st,())) fun y=>y.2.2.2.1.length≤st.length+1:=by
 rw [b8.eq];unfold b8.B
 obtain ⟨⟨t,_⟩,ht,t2,t3⟩:=sX a
 dsimp only at t2 t3
 simp only [ht,Option.bind_some]
 refine aR (fun x=>(x.1.length:Int)=max 0 t∧x.2.2.2.1.length≤st.length) ?_ ?_
 ·refine cW (fun x=>t.toNat-x.1.toNat) (fun x=>0≤x.1∧x.1≤max 0 t∧(x.2.1.length:Int)=x.1∧x.2.2.2.2.1.length≤st.length) ⟨by simp,by simp;omega,by simp,by simp⟩ ?_
  rintro ⟨i,l,ok',ks',st',_⟩ ⟨i1,i2,i3,i4⟩
  dsimp only at i1 i2 i3 i4 ⊢
  refine ac.2 ⟨fun h5=>?_,fun h5=>aE.2 ⟨by simp at h5;dsimp only;omega,i4⟩⟩
  simp at h5
  have hw:wr (i+1)=i+1:=bF (by omega) (by omega)
  refine af.2 ((Cy _ _ _ (by omega)).mono fun y hy=>ai.2 ⟨by simp;omega,?_⟩)
  simp only [ak,hw]
  exact ⟨⟨by omega,by omega,by simp;omega,by omega⟩,by omega⟩
 rintro ⟨l,ok',ks',st',_⟩ ⟨h1,h2⟩
 dsimp only at h1 h2 ⊢
 refine aR (fun x=>x.1=false→0≤t) ?_ fun x hx=>ac.2 ⟨fun _=>ah.2 (by dsimp only;omega),fun e=>?_⟩
 ·exact ac.2 ⟨fun _=>ak.2 (fun h=>by cases h),fun _=>ak.2 (fun h=>by simpa using h)⟩
 have ht0:=hx e
 have psh:∀k,Tot (bn.F (k,ok',ks',st',())) fun y=>y.2.2.1.length≤st.length+1:=fun k=>(AM k ok' ks' st' (by omega)).mono fun y hy=>by omega
 refine ac.2 ⟨fun _=>?_,fun _=>ac.2 ⟨fun _=>?_,fun _=>?_⟩⟩
 ·refine aR (fun x=>x.1=false→0≤b∧b<(ks'.length:Int)) ?_ fun x hx=>ac.2 ⟨fun _=>ah.2 (by dsimp only;omega),fun e=>?_⟩
  ·simp
   omega
  ·have:=hx e
   exact ai.2 ⟨by simp;omega,af.2 ((psh _).mono fun y hy=>ah.2 hy)⟩
 ·exact af.2 ((psh _).mono fun y hy=>af.2 ((jI _ _ _).mono fun _ _=>ah.2 hy))
 ·exact af.2 ((qm a l (by omega) (fun h=>by have:=t3 h;omega)).mono fun z _=>af.2 ((psh _).mono fun y hy=>ah.2 hy))
theorem vA (e:List ao) (ks:List Int):Tot (eO.F (e,ks,())) fun _=>True:=by
 rw [eO.eq];unfold eO.B
 refine ac.2 ⟨fun _=>by simp,fun h=>?_⟩
 simp at h
 refine aR (fun _=>True) ?_ fun x _=>?_
 ·refine cW (fun x=>e.length-x.1.toNat) (fun x=>0≤x.1∧x.1≤(e.length:Int)∧(x.2.2.2.1.length:Int)≤x.1) (by simp) ?_
  rintro ⟨i,ok,k,st,_⟩ ⟨i1,i2,i3⟩
  dsimp only at i1 i2 i3 ⊢
  refine ac.2 ⟨fun h5=>?_,fun h5=>aE.2 trivial⟩
  simp at h5
  have hw:wr (i+1)=i+1:=bF (by omega) (by omega)
  refine ai.2 ⟨by simp;omega,af.2 ((yQ _ _ _ _ _ _ _ _ (by omega)).mono fun y hy=>ac.2 ⟨fun _=>aE.2 trivial,fun _=>?_⟩)⟩
  simp only [ak,hw]
  exact ⟨⟨by omega,by omega,by omega⟩,by omega⟩
 ·rw [bW.eq];unfold bW.B
  refine af.2 (Tot.mono (P:=fun _=>True) ?_ fun y _=>ac.2 ⟨fun _=>ah.2 trivial,fun _=>ah.2 trivial⟩)
  simp
  omega
theorem sY (e:List ao) (ks:List Int):Tot (cZ.F (e,ks,())) fun _=>True:=by
 rw [cZ.eq];unfold cZ.B
 exact af.2 ((vA e ks).mono fun y _=>ac.2 ⟨fun _=>ac.2 ⟨fun _=>ah.2 trivial,fun _=>ah.2 trivial⟩,fun _=>ah.2 trivial⟩)
theorem AN:(List.range 1000).all (fun n=>decide (cp.B (1,(n:Int),())=some (0,(n:Int),())))=true:=by
 kernel_rfl
theorem CA (n:Nat) (h:n<1000):Tot (aL.F ([true],(n:Int),())) fun y=>y.1.length=n:=by
 rw [aL.eq];unfold aL.B
 have hm:di.F ((IntKind.u64.wrap ((([true]:List Bool).length:Int))),(IntKind.u64.wrap ((n:Int))),())=some (0,(n:Int),()):=by
  have e1:IntKind.u64.wrap ((([true]:List Bool).length:Int))=1:=by decide
  have e2:IntKind.u64.wrap ((n:Int))=n:=by rw [pE];omega
  rw [e1,e2,di.eq]
  unfold di.B
  have:=of_decide_eq_true (List.all_eq_true.1 AN n (List.mem_range.2 h))
  show Option.bind (cp.F (1,(n:Int),())) _=_
  rw [cp.eq,this]
  rfl
 refine aR (fun _=>True) (ac.2 ⟨fun h=>by simp at h;omega,fun _=>ak.2 trivial⟩) fun _ _=>?_
 have hw:wr (n:Int)=n:=bF (by omega) (by omega)
 simp only [hm,Option.bind_some,hw,Int.toNat_natCast]
 refine aR (fun _=>True) (by simp;omega) fun _ _=>ai.2 ⟨by simp;omega,?_⟩
 have hmin:∀a b:Nat,Nat.min a b=min a b:=fun _ _=>rfl
 refine cW (fun x=>n-x.1.toNat) (fun x=>0≤x.1∧x.1≤(n:Int)∧(1≤n→1≤x.1)∧x.2.1.length=n) (by simp [hmin];omega) ?_
 rintro ⟨i,l,_⟩ ⟨i1,i2,i3,i4⟩
 dsimp only at i1 i2 i3 i4 ⊢
 refine ac.2 ⟨fun h5=>?_,fun h5=>aE.2 i4⟩
 simp at h5
 simp only [hmin,Int.toNat_zero,Int.toNat_natCast,List.drop_zero,Nat.sub_zero,List.length_take,i4]
 have e:min (min i.toNat n) (n-i.toNat)=min i.toNat (n-i.toNat):=by omega
 simp only [e]
 have hw:wr (i+((min i.toNat (n-i.toNat):Nat):Int))=i+((min i.toNat (n-i.toNat):Nat):Int):=bF (by omega) (by omega)
 simp only [hw]
 refine ai.2 ⟨by simp;omega,ai.2 ⟨by simp;omega,?_⟩⟩
 simp
 omega
end Go.Proofs.Ytpoffnlnhdbpmaa
end
section
set_option maxRecDepth 100000
namespace Go.Proofs.Ytpoffnlnhdbpmaa
open Go Lv Go.Proofs Go.RowKit Go.Shelf
variable [Lk]
@[simp] theorem ow (d : bx) : dK.F (d.1,d.2.1.1,d.2.1.2.1,d.2.1.2.2,d.2.2.1,d.2.2.2.1,d.2.2.2.2.1,d.2.2.2.2.2.1.1,d.2.2.2.2.2.1.2,d.2.2.2.2.2.2.1,d.2.2.2.2.2.2.2.1,d.2.2.2.2.2.2.2.2.1,d.2.2.2.2.2.2.2.2.2,()) = some (nmD d,()) := by
 rw [dK.eq];unfold dK.B nmD
 dsimp only
 cases (d.1==0)<;>rfl
theorem jJ (c : List bx) (s : ByteArray) (h : c.length < 1000000000000000) : cF.F (c,s,()) = some (mn c s,()) := by
  have:Tot (cF.F (c,s,())) fun y=>y.1=mn c s:=by
    rw [cF.eq];unfold cF.B
    refine cW (fun x=>c.length-x.1.toNat) (fun x=>∃i:Nat,x.1=(i:Int)∧i≤c.length∧∀(j:Nat) (hj:j<c.length),j<i→sq (nmD c[j]) s=false) ⟨0,rfl,by omega,fun j _ h=>by omega⟩ ?_
    rintro ⟨_,u⟩ ⟨i,rfl,h1,h2⟩
    refine ac.2 ⟨fun h5=>?_,fun h5=>?_⟩
    · simp at h5
      have hw:wr ((i:Int)+1)=((i+1:Nat):Int):=by rw [bF (by omega) (by omega)];omega
      simp only [cG h5,ow,Option.bind_some,hw]
      refine aR (fun x=>x.1=sq (nmD c[i]) s) (ai.2 ⟨by simp;omega,ak.2 rfl⟩) fun x hx=>ac.2 ⟨fun h6=>?_,fun h6=>?_⟩
      · rw [hx] at h6
        simp only [aE]
        have:fnd c s=some i:=List.findIdx?_eq_some_iff_getElem.2 ⟨h5,h6,fun j hj=>by rw [h2 j (by omega) hj];simp⟩
        unfold mn
        rw [this]
      · rw [hx] at h6
        simp only [ak]
        refine ⟨⟨i+1,rfl,by omega,fun j hj hji=>?_⟩,by simp;omega⟩
        by_cases e:j=i
        · subst e;exact h6
        · exact h2 j hj (by omega)
    · simp at h5
      simp only [aE]
      have:fnd c s=none:=List.findIdx?_eq_none_iff.2 fun x hx=>by
        obtain ⟨j,hj,rfl⟩:=List.getElem_of_mem hx
        exact h2 j hj (by omega)
      unfold mn
      rw [this]
  obtain ⟨⟨y,_⟩,h1,h2⟩:=this
  rw [h1]
  simp at h2
  rw [h2]
theorem qn (c:List bx) (hc:c.length≤22) (f:TS aA.d.si→Option (TS aA.d.so)) (vn vf vw:ByteArray) (o1 o2:Int) (wh:List ao) (pk:List Int) (gr:Bool) (ag:List cH)
 (hw:∀d∈c,wD d≤800) (hf:∀s i,fnd c s=some i→(s=vf∨s=vw∧sq vw ⟨#[]⟩=false)→∀hi:i<c.length,Tot (f (c,dA c[i])) fun y=>y.1.length=wD c[i]) (h1:∃i,fnd c vf=some i) (h2:sq vw ⟨#[]⟩=false→∃i,fnd c vw=some i):
 Tot (aI.b f (c,vn,vf,vw,o1,o2,wh,pk,gr,ag,())) fun y=>y.1.length=wJ c vf vw:=by
 unfold aI.b
 obtain ⟨i,hi⟩:=h1
 have li:=jR hi
 have hn:∀s j,fnd c s=some j→∀hj:j<c.length,wN c s=wD c[j]:=fun s j h hj=>by
  unfold wN
  rw [h]
  simp only [List.getD_eq_getElem?_getD,List.getElem?_eq_getElem hj,Option.getD_some]
 simp only [jJ c _ (show c.length<1000000000000000 by omega),Option.bind_some,iz hi,cG li]
 refine ai.2 ⟨by simp;omega,af.2 ((hf _ _ hi (.inl rfl) li).mono fun y hy=>?_)⟩
 have g1:=hw _ (List.getElem_mem li)
 refine ac.2 ⟨fun e=>?_,fun e=>?_⟩
 ·have e:sq vw ⟨#[]⟩=false:=by simpa using e
  obtain ⟨j,hj⟩:=h2 e
  have lj:=jR hj
  have g2:=hw _ (List.getElem_mem lj)
  simp only [iz hj,cG lj]
  refine ai.2 ⟨by simp;omega,af.2 ((hf _ _ hj (.inr ⟨rfl,e⟩) lj).mono fun z hz=>?_)⟩
  refine ai.2 ⟨by simp;omega,?_⟩
  simp only [ah]
  unfold wJ
  rw [e,hn _ _ hi li,hn _ _ hj lj,cond_false]
  simp [hy,hz]
 ·have e:sq vw ⟨#[]⟩=true:=by simpa using e
  simp only [ah]
  unfold wJ
  rw [e,hy,hn _ _ hi li,cond_true,Nat.add_zero]
theorem AO (c:List bx) (d:bx) (hk:d.1≠0) (hd:Sd d) (f:TS aI.d.si→Option (TS aI.d.so)) (hf:Tot (f (c,d.2.2.1,d.2.2.2.1,d.2.2.2.2.1,d.2.2.2.2.2.1.1,d.2.2.2.2.2.1.2,d.2.2.2.2.2.2.1,d.2.2.2.2.2.2.2.1,d.2.2.2.2.2.2.2.2.1,d.2.2.2.2.2.2.2.2.2,())) fun y=>y.1.length=wJ c d.2.2.2.1 d.2.2.2.2.1)
 (hp:∀n∈d.2.2.2.2.2.2.2.1,0≤n∧n<(wJ c d.2.2.2.1 d.2.2.2.2.1:Int)) (ha:∀a∈d.2.2.2.2.2.2.2.2.2,a.1≥2→0≤a.2∧a.2<(wJ c d.2.2.2.1 d.2.2.2.2.1:Int)):Tot (aA.b f (c,dA d)) fun y=>y.1.length=wD d:=by
 unfold aA.b
 have e:(d.1==0)=false:=by simpa using hk
 have g1:=hd.s5
 have g2:=hd.s6
 have hw:wD d=d.2.2.2.2.2.2.2.1.length+d.2.2.2.2.2.2.2.2.2.length:=by unfold wD;rw [e,cond_false]
 dsimp only [dA]
 rw [e,cond_false]
 generalize d.2.2.2.2.2.2.2.1=pk at*
 generalize d.2.2.2.2.2.2.2.2.2=ag at*
 refine aR (fun x=>x.1=[]) (ak.2 rfl) ?_
 rintro ⟨_,u⟩ rfl
 refine af.2 (hf.mono fun y hy=>?_)
 refine aR (fun x=>x.1.length=pk.length) ?_ ?_
 ·refine cW (fun x=>pk.length-x.1.toNat) (fun x=>0≤x.1∧x.1≤(pk.length:Int)∧(x.2.1.length:Int)=x.1) (by simp) ?_
  rintro ⟨i,l,_⟩ ⟨i1,i2,i3⟩
  dsimp only at i1 i2 i3 ⊢
  refine ac.2 ⟨fun h5=>?_,fun h5=>by simp at h5 ⊢;omega⟩
  simp at h5
  have:=hp _ (fJ (z:=(0:Int)) i1 h5)
  refine ai.2 ⟨by simp;omega,ai.2 ⟨by simp;omega,?_⟩⟩
  simp [eu]
  omega
 rintro ⟨l,_⟩ h1
 dsimp only at h1 ⊢
 refine aR (fun x=>x.1.length=wD d) ?_ fun x hx=>?_
 ·refine cW (fun x=>ag.length-x.1.toNat) (fun x=>0≤x.1∧x.1≤(ag.length:Int)∧(x.2.1.length:Int)=pk.length+x.1) (by simp;omega) ?_
  rintro ⟨i,l,_⟩ ⟨i1,i2,i3⟩
  dsimp only at i1 i2 i3 ⊢
  refine ac.2 ⟨fun h5=>?_,fun h5=>by simp at h5;simp [hw];omega⟩
  simp at h5
  have:=ha _ (fJ (z:=dW.z) i1 h5)
  refine ai.2 ⟨by simp;omega,ac.2 ⟨fun h6=>?_,fun h6=>ac.2 ⟨fun h7=>?_,fun h7=>?_⟩⟩⟩
  ·have h6:(gt ag i dW.z).1=2:=by simpa using h6
   have:=this (by omega)
   refine ai.2 ⟨by simp;omega,?_⟩
   simp [eu]
   omega
  ·have h7:(gt ag i dW.z).1=3:=by simpa using h7
   have:=this (by omega)
   refine ai.2 ⟨by simp;omega,?_⟩
   simp [eu]
   omega
  ·simp [eu]
   omega
 ·exact af.2 ((CA _ (by omega)).mono fun z _=>ah.2 hx)
theorem AP (c:List bx) (d:bx) (hk:d.1=0) (hd:Sd d) (f:TS aI.d.si→Option (TS aI.d.so)):Tot (aA.b f (c,dA d)) fun y=>y.1.length=wD d:=by
 unfold aA.b
 have e:(d.1==0)=true:=by simpa using hk
 have hw:wD d=d.2.1.2.1.length:=by unfold wD;rw [e,cond_true]
 have:=hd.s1
 dsimp only
 rw [e,cond_true,hw]
 refine aR (fun _=>False) ?_ (fun _ h=>h.elim)
 refine cW (fun x=>d.2.1.2.1.length-x.1.toNat) (fun x=>0≤x.1∧x.1≤(d.2.1.2.1.length:Int)∧(x.2.1.length:Int)=x.1∧(x.2.2.1.length:Int)=x.1) (by simp) ?_
 rintro ⟨i,l,m,_⟩ ⟨i1,i2,i3,i4⟩
 dsimp only at i1 i2 i3 i4 ⊢
 simp [eu]
 omega
theorem pr_t (c : List bx) (h : Gc c) : ∀ (n j : Nat),j < n → (hj : j < c.length) → Tot (aA.r n (c,dA c[j])) fun y => y.1.length = wD c[j]
  |0,_,h,_=>by omega
  | n + 1,j,hn,hj => by
    have hS:=h.s _ (List.getElem_mem hj)
    show Tot (aA.b (aI.b (aA.r n)) (c,dA c[j])) _
    by_cases hk:c[j].1=0
    · exact AP c _ hk hS _
    · have g:=h.g j hj
      obtain ⟨i,hi⟩:=g.f hk
      have e:=h.wj hj hk
      refine AO c _ hk hS _ (qn c h.len _ _ _ _ _ _ _ _ _ _ (fun d hd=>m9 (h.s d hd)) (fun s k hs hor hk'=>?_) ⟨i,(jD hi).1⟩ fun e'=>?_) (by rw [←e];exact g.pk hk) (by rw [←e];exact g.ag hk)
      · have:k<j:=by
          rcases hor with rfl|⟨rfl,e'⟩
          · have:=jD hi
            rw [this.1] at hs
            cases hs
            exact this.2
          · obtain ⟨m,hm⟩:=g.w hk e'
            have:=jD hm
            rw [this.1] at hs
            cases hs
            exact this.2
        exact pr_t c h n k (by omega) hk'
      · obtain ⟨m,hm⟩:=g.w hk e'
        exact ⟨m,(jD hm).1⟩
end Go.Proofs.Ytpoffnlnhdbpmaa
end
section
set_option maxRecDepth 100000
namespace Go.Proofs.Ytpoffnlnhdbpmaa
open Go Lv Go.Proofs Go.RowKit Go.Shelf
variable [Lk]
theorem yR (c:List bx) (hc:Gc c) (n:ByteArray) (cs:List aC) (es:List (List ao)) (h:cs.length≤400) (h1:1≤cs.length) (he:es.length≤400):Tot (cO.F (c,n,cs,es,())) fun _=>True:=by
 rw [cO.eq];unfold cO.B
 have hl:=hc.len
 refine af.2 (Tot.mono (P:=fun _=>True) ?_ fun y _=>?_)
 ·rw [aA.eq]
  show Tot (aA.b (aI.b (aA.r 63)) _) _
  unfold aA.b
  refine aR (fun _=>False) ?_ (fun _ h=>h.elim)
  refine cW (fun x=>cs.length-x.1.toNat) (fun x=>0≤x.1∧x.1≤(cs.length:Int)∧(x.2.1.length:Int)=x.1∧(x.2.2.1.length:Int)=x.1) (by simp) ?_
  rintro ⟨i,l,m,_⟩ ⟨i1,i2,i3,i4⟩
  dsimp only at i1 i2 i3 i4 ⊢
  simp [eu]
  omega
 refine aR (fun _=>True) ?_ fun _ _=>?_
 ·refine ic cs.length fun i h0 h1=>ac.2 ⟨fun h5=>?_,fun _=>aE.2 trivial⟩
  simp at h5
  have w4:wr (i+1)=i+1:=bF (by omega) (by omega)
  refine ai.2 ⟨by simp;omega,aR (fun _=>True) ?_ fun _ _=>ac.2 ⟨fun _=>aE.2 trivial,fun _=>by simp [w4];omega⟩⟩
  refine ic cs.length fun j g0 g1=>ac.2 ⟨fun h6=>?_,fun _=>iA.2 ?_⟩
  ·simp at h6
   have w5:wr (j+1)=j+1:=bF (by omega) (by omega)
   refine aR (fun _=>True) (ai.2 ⟨by simp;omega,ak.2 trivial⟩) fun _ _=>ac.2 ⟨fun _=>iA.2 ?_,fun _=>by simp [w5];omega⟩
   repeat' first|exact ak.2 trivial|refine ac.2 ⟨fun _=>?_,fun _=>?_⟩
  ·repeat' first|exact ak.2 trivial|refine ac.2 ⟨fun _=>?_,fun _=>?_⟩
 refine aR (fun _=>True) ?_ fun _ _=>?_
 ·refine ic cs.length fun i h0 h1'=>?_
  refine ac.2 ⟨fun h5=>?_,fun _=>by simp⟩
  simp at h5
  have w4:wr (i+1)=i+1:=bF (by omega) (by omega)
  refine ai.2 ⟨by simp;omega,ac.2 ⟨fun _=>by simp [w4];omega,fun _=>?_⟩⟩
  refine aR (fun x=>1≤x.2.1.length) ?_ ?_
  ·refine ac.2 ⟨fun _=>?_,fun _=>ak.2 h1⟩
   simp only [jJ c _ (show c.length<1000000000000000 by omega),Option.bind_some]
   refine ac.2 ⟨fun _=>aE.2 trivial,fun hn=>?_⟩
   obtain ⟨k,hk⟩:=jC (c:=c) (by simpa using hn)
   have lk:=jR hk
   simp only [iz hk,cG lk]
   exact ai.2 ⟨by simp;omega,ac.2 ⟨fun _=>aE.2 trivial,fun h0=>ai.2 ⟨by simp;omega,ak.2 ((hc.g k lk).t (by simpa using h0))⟩⟩⟩
  ·rintro ⟨a,b,e,_⟩ hx
   dsimp only at hx ⊢
   refine ai.2 ⟨by rw [jb];omega,?_⟩
   simp [w4]
   omega
 refine cW (fun x=>es.length-x.1.toNat) (fun x=>0≤x.1∧x.1≤(es.length:Int)) (by simp) ?_
 rintro ⟨i,l,_⟩ ⟨i1,i2⟩
 dsimp only at i1 i2 ⊢
 refine ac.2 ⟨fun h5=>?_,fun h5=>iA.2 (by simp)⟩
 simp at h5
 have w4:wr (i+1)=i+1:=bF (by omega) (by omega)
 refine aR (fun _=>True) (ai.2 ⟨by simp;omega,af.2 ((sY _ _).mono fun u _=>ak.2 trivial)⟩) fun _ _=>ac.2 ⟨fun _=>iA.2 (by simp),fun _=>by simp [w4];omega⟩
theorem sZ (c:List bx) (hc:Gc c) (vn vf vw:ByteArray) (o1 o2:Int) (wh:List ao) (pk:List Int) (gr:Bool) (ag:List cH) (hp:pk.length≤400) (ha:ag.length≤400) (v12:(0≤o1∧o1≤99)∧0≤o2∧o2≤99) (v6:∀a∈ag,0≤a.2):
 Tot (dz.F (c,vn,vf,vw,o1,o2,wh,pk,gr,ag,())) fun _=>True:=by
 rw [dz.eq];unfold dz.B
 have hl:=hc.len
 obtain ⟨⟨v1,v2⟩,v3,v4⟩:=v12
 simp only [jJ c _ (show c.length<1000000000000000 by omega),Option.bind_some]
 refine aR (fun _=>(∃i,fnd c vf=some i)∧(sq vw ⟨#[]⟩=false→∃i,fnd c vw=some i)) ?_ ?_
 ·refine ac.2 ⟨fun _=>by simp,fun h1=>ac.2 ⟨fun h2=>ac.2 ⟨fun _=>by simp,fun h3=>?_⟩,fun h2=>?_⟩⟩
  ·simp only [ak]
   exact ⟨jC (by simpa using h1),fun _=>jC (by simpa using h3)⟩
  ·simp only [ak]
   exact ⟨jC (by simpa using h1),fun e=>by simp [e] at h2⟩
 rintro _ ⟨⟨i,hi⟩,g2⟩
 have li:=jR hi
 have hrt:∀k (hk:k<c.length),Tot (aA.r 64 (c,dA c[k])) fun y=>y.1.length=wD c[k]:=fun k hk=>pr_t c hc 64 k (by omega) hk
 simp only [iz hi,cG li]
 refine ai.2 ⟨by simp;omega,af.2 (Tot.mono (P:=fun y=>y.1.length=wD c[i]) (by rw [aA.eq];exact hrt i li) fun z hz=>?_)⟩
 refine af.2 (Tot.mono (P:=fun y=>y.1.length=wJ c vf vw) ?_ fun y hy=>?_)
 ·rw [aI.eq]
  exact qn c hl _ _ _ _ _ _ _ _ _ _ (fun d hd=>m9 (hc.s d hd)) (fun s k hs _ hk=>hrt k hk) ⟨i,hi⟩ g2
 have hwi:=m9 (hc.s _ (List.getElem_mem li))
 have hwj:wD c[i]≤wJ c vf vw∧wJ c vf vw≤1600:=by
  have e1:wN c vf=wD c[i]:=by unfold wN;rw [hi];simp only [List.getD_eq_getElem?_getD,List.getElem?_eq_getElem li,Option.getD_some]
  unfold wJ
  rw [e1]
  refine ⟨by omega,?_⟩
  cases e:sq vw ⟨#[]⟩ with
  |true=>simp;omega
  |false=>
   obtain ⟨k,hk⟩:=g2 e
   have lk:=jR hk
   have:=m9 (hc.s _ (List.getElem_mem lk))
   have e2:wN c vw=wD c[k]:=by unfold wN;rw [hk];simp only [List.getD_eq_getElem?_getD,List.getElem?_eq_getElem lk,Option.getD_some]
   rw [e2]
   simp
   omega
 refine ai.2 ⟨by simp;omega,aR (fun _=>True) ?_ fun _ _=>ac.2 ⟨fun _=>ah.2 trivial,fun _=>?_⟩⟩
 ·refine ac.2 ⟨fun _=>ai.2 ⟨by decide,ac.2 ⟨fun _=>ak.2 trivial,fun h1=>ai.2 ⟨by decide,ac.2 ⟨fun _=>ak.2 trivial,fun h2=>?_⟩⟩⟩⟩,fun _=>ak.2 trivial⟩
  simp at h1 h2
  exact ai.2 ⟨by decide,ai.2 ⟨by simp;omega,ai.2 ⟨by decide,ai.2 ⟨by simp;omega,ak.2 trivial⟩⟩⟩⟩
 refine aR (fun x=>x.1=y.1) ?_ ?_
 ·refine ac.2 ⟨fun _=>af.2 ((sY _ _).mono fun u _=>ac.2 ⟨fun _=>by simp,fun _=>by simp⟩),fun _=>by simp⟩
 rintro ⟨l,_⟩ rfl
 dsimp only
 refine aR (fun _=>True) ?_ fun _ _=>?_
 ·refine ic pk.length fun j j0 j1=>?_
  simp [eu]
  omega
 refine aR (fun _=>True) ?_ fun _ _=>?_
 ·refine ic ag.length fun j j0 j1=>ac.2 ⟨fun h5=>?_,fun _=>aE.2 trivial⟩
  simp at h5
  have w4:wr (j+1)=j+1:=bF (by omega) (by omega)
  have:=v6 _ (fJ (z:=dW.z) j0 h5)
  refine ai.2 ⟨by simp;omega,aR (fun _=>True) ?_ fun _ _=>ac.2 ⟨fun _=>aE.2 trivial,fun _=>by simp [w4];omega⟩⟩
  refine ac.2 ⟨fun h=>ac.2 ⟨fun _=>ak.2 trivial,fun h2=>ac.2 ⟨fun _=>ai.2 ⟨by simp at h2;simp;omega,ak.2 trivial⟩,fun _=>ak.2 trivial⟩⟩,fun h=>ac.2 ⟨fun h2=>?_,fun _=>ak.2 trivial⟩⟩
  simp at h h2
  omega
 repeat' first|exact ah.2 trivial|refine ac.2 ⟨fun _=>?_,fun _=>?_⟩
theorem CB (c:List bx) (hc:Gc c) (d:bx) (hd:Sd d) (hg:Gd c d):Tot (dx.F (c,d.1,d.2.1.1,d.2.1.2.1,d.2.1.2.2,d.2.2.1,d.2.2.2.1,d.2.2.2.2.1,d.2.2.2.2.2.1.1,d.2.2.2.2.2.1.2,d.2.2.2.2.2.2.1,d.2.2.2.2.2.2.2.1,d.2.2.2.2.2.2.2.2.1,d.2.2.2.2.2.2.2.2.2,())) fun _=>True:=by
 rw [dx.eq];unfold dx.B
 have hl:=hc.len
 refine af.2 ((Cw d hd).mono fun y _=>ac.2 ⟨fun _=>ah.2 trivial,fun _=>ac.2 ⟨fun _=>ah.2 trivial,fun _=>?_⟩⟩)
 simp only [ow,Option.bind_some,jJ c _ (show c.length<1000000000000000 by omega)]
 refine ac.2 ⟨fun _=>ah.2 trivial,fun _=>ac.2 ⟨fun e=>?_,fun e=>?_⟩⟩
 ·exact af.2 ((yR c hc _ _ _ hd.s1 (hg.t (by simpa using e)) hd.s2).mono fun _ _=>ah.2 trivial)
 ·have e:d.1≠0:=by simpa using e
  exact af.2 ((sZ c hc _ _ _ _ _ _ _ _ _ hd.s5 hd.s6 (hg.o e) (fun a ha=>(hg.a0 e a ha).1)).mono fun _ _=>ac.2 ⟨fun _=>ah.2 trivial,fun _=>ah.2 trivial⟩)
theorem Gc.take {c:List bx} (h:Gc c) (i:Nat):Gc (c.take i):=⟨by have:=h.len;simp;omega,fun d hd=>h.s d (List.mem_of_mem_take hd),fun j hj=>by
 simp only [List.length_take] at hj
 have:=h.g j (by omega)
 simp only [List.getElem_take]
 rw [List.take_take,show min j i=j by omega]
 exact this⟩
theorem CC (c:List bx) (hc:Gc c):Tot (schema_May.F (c,())) fun _=>True:=by
 rw [schema_May.eq];unfold schema_May.B
 have hl:=hc.len
 refine jQ c.length (fun _=>True) (fun i hi=>?_) (fun _=>by simp)
 have hw:wr ((i:Int)+1)=(i:Int)+1:=bF (by omega) (by omega)
 simp only [cG hi,Int.toNat_zero,List.drop_zero,Int.toNat_natCast,hw]
 refine ac.2 ⟨fun _=>ai.2 ⟨by simp;omega,ai.2 ⟨by simp;omega,af.2 ((CB _ (hc.take i) _ (hc.s _ (List.getElem_mem hi)) (hc.g i hi)).mono fun _ _=>ac.2 ⟨fun _=>aE.2 trivial,fun _=>by simp⟩)⟩⟩,fun h=>by simp at h;omega⟩
end Go.Proofs.Ytpoffnlnhdbpmaa
end
section
set_option maxRecDepth 100000
namespace Go.Proofs.Ytpoffnlnhdbpmaa
open Go Lv Go.Proofs Go.RowKit Go.Shelf
variable [Lk]
abbrev cb:=Lib.compareBytes
theorem qY:∀l,cb l l=0
 | []=>rfl
 |a::r=>by simp [cb,Lib.compareBytes];exact qY r
theorem yS:∀a b,cb a b=-1∨cb a b=0∨cb a b=1
  | [],[]=> .inr (.inl rfl)
  | [],_::_=> .inl rfl
  |_::_,[]=> .inr (.inr rfl)
  | a :: x,b :: y => by
    have ih:=yS x y
    simp only [cb,Lib.compareBytes] at ih ⊢
    split
    · exact .inl rfl
    · split
      · exact .inr (.inr rfl)
      · exact ih
theorem qZ {a b:UInt8} (h1:¬a<b) (h2:¬b<a):a=b:=by
 rcases UInt8.lt_or_lt_of_ne (a:=a) (b:=b)|>fun f=>Classical.em (a=b) with h|h
 ·exact h
 ·rcases UInt8.lt_or_lt_of_ne h with h|h
  ·exact absurd h h1
  ·exact absurd h h2
theorem ra : ∀ a b,cb a b = 0 → a = b
  | [],[],_=>rfl
  | [],_::_,h=>by simp [cb,Lib.compareBytes] at h
  |_::_,[],h=>by simp [cb,Lib.compareBytes] at h
  | a :: x,b :: y,h => by
    simp only [cb,Lib.compareBytes] at h
    split at h
    · cases h
    · split at h
      · cases h
      · rename_i h1 h2
        rw [qZ h1 h2,ra x y h]
theorem ta : ∀ a b c,cb a b < 0 → cb b c < 0 → cb a c < 0
  | [],[],c,h,_=>by simp [cb,Lib.compareBytes] at h
  | [],_::_,[],_,h=>by simp [cb,Lib.compareBytes] at h
  | [],_::_,_::_,_,_=>by simp [cb,Lib.compareBytes]
  |_::_,[],_,h,_=>by simp [cb,Lib.compareBytes] at h
  |_::_,_::_,[],_,h=>by simp [cb,Lib.compareBytes] at h
  | a :: x,b :: y,c :: z,h,k => by
    simp only [cb,Lib.compareBytes] at h k ⊢
    by_cases h1:a<b
    · by_cases h2:b<c
      · rw [if_pos (UInt8.lt_trans h1 h2)];decide
      · by_cases h3:c<b
        · rw [if_neg h2,if_pos h3] at k;omega
        · rw [←qZ h2 h3,if_pos h1];decide
    · by_cases h4:b<a
      · rw [if_neg h1,if_pos h4] at h;omega
      · have e:=qZ h1 h4
        subst e
        rw [if_neg h1,if_neg h1] at h
        by_cases h2:a<c
        · rw [if_pos h2];decide
        · by_cases h3:c<a
          · rw [if_neg h2,if_pos h3] at k;omega
          · rw [if_neg h2,if_neg h3] at k ⊢
            exact ta x y z h k
theorem vB : ∀ a b,Op.bytesLess a b = decide (cb a b < 0)
  | [],[]=>rfl
  | [],_::_=>rfl
  |_::_,[]=>rfl
  | a :: x,b :: y => by
    have ih:=vB x y
    simp only [Op.bytesLess,cb,Lib.compareBytes] at ih ⊢
    by_cases h1:a<b
    · simp [h1]
    · by_cases h2:b<a
      · have:(a==b)=false:=by
          rw [beq_eq_false_iff_ne];rintro rfl;exact h1 h2
        simp [h1,h2,this]
      · have e:=qZ h1 h2
        subst e
        simp [h1,ih]
def cI (a b:Int):Int:=if a<b then -1 else if a>b then 1 else 0
noncomputable def cV (x y:ax):Int:=if cI x.1 y.1≠0 then cI x.1 y.1 else if cI x.2.1 y.2.1≠0 then cI x.2.1 y.2.1 else uk x.2.2 y.2.2
theorem ji (a b:Int):(a<b∧cI a b=-1)∨(a=b∧cI a b=0)∨(b<a∧cI a b=1):=by
 unfold cI
 by_cases h1:a<b
 ·exact .inl ⟨h1,if_pos h1⟩
 ·by_cases h2:a>b
  ·exact .inr (.inr ⟨h2,by rw [if_neg h1,if_pos h2]⟩)
  ·exact .inr (.inl ⟨by omega,by rw [if_neg h1,if_neg h2]⟩)
theorem AQ (x:ax):cV x x=0:=by
 unfold cV
 have h1:cI x.1 x.1=0:=by simp [cI]
 have h2:cI x.2.1 x.2.1=0:=by simp [cI]
 rw [h1,h2];simp;exact qY _
theorem AR {x y:ax} (h:cV x y=0):x=y:=by
 unfold cV at h
 rcases ji x.1 y.1 with ⟨h1,e⟩|⟨h1,e⟩|⟨h1,e⟩<;>rw [e] at h<;>simp at h
 rcases ji x.2.1 y.2.1 with ⟨h2,e'⟩|⟨h2,e'⟩|⟨h2,e'⟩<;>rw [e'] at h<;>simp at h
 have h3:=ra _ _ (show cb x.2.2.data.toList y.2.2.data.toList=0 from h)
 obtain ⟨a,b,⟨⟨s⟩⟩⟩:=x
 obtain ⟨a',b',⟨⟨s'⟩⟩⟩:=y
 simp only at h1 h2 h3
 subst h1 h2 h3
 rfl
theorem yT {x y z:ax} (h:cV x y<0) (k:cV y z<0):cV x z<0:=by
 unfold cV at h k ⊢
 have hb:=ta x.2.2.data.toList y.2.2.data.toList z.2.2.data.toList
 rcases ji x.1 y.1 with ⟨h1,e1⟩|⟨h1,e1⟩|⟨h1,e1⟩<;>rw [e1] at h<;>simp at h<;>rcases ji y.1 z.1 with ⟨g1,f1⟩|⟨g1,f1⟩|⟨g1,f1⟩<;>rw [f1] at k<;>simp at k<;>rcases ji x.1 z.1 with ⟨q1,p1⟩|⟨q1,p1⟩|⟨q1,p1⟩<;>rw [p1]<;>first|omega|skip
 all_goals simp
 rcases ji x.2.1 y.2.1 with ⟨h2,e2⟩|⟨h2,e2⟩|⟨h2,e2⟩<;>rw [e2] at h<;>simp at h<;>rcases ji y.2.1 z.2.1 with ⟨g2,f2⟩|⟨g2,f2⟩|⟨g2,f2⟩<;>rw [f2] at k<;>simp at k<;>rcases ji x.2.1 z.2.1 with ⟨q2,p2⟩|⟨q2,p2⟩|⟨q2,p2⟩<;>rw [p2]<;>first|omega|skip
 all_goals simp
 exact hb h k
theorem cI_t (a b:Int):cD.F (a,b,())=some (cI a b,()):=by
 rw [cD.eq];unfold cD.B
 have hn:∀n:Int,db.F (n,())=some (false,()):=fun n=>by rw [db.eq];unfold db.B;simp
 simp only [hn,Option.bind_some,cond_false,cI]
 by_cases h1:a<b
 ·simp [h1]
 ·by_cases h2:a>b
  ·simp [h1,h2]
  ·simp [h1,h2]
theorem Tot.is {A:Type} {x:Option (A×Unit)} {a:A} (h:Tot x fun y=>y.1=a):x=some (a,()):=by
 obtain ⟨⟨y,_⟩,h1,h2⟩:=h
 cases h2
 exact h1
theorem or3_i (a b c:Int):eC.F ([a,b,c],())=some (if a≠0 then a else if b≠0 then b else c,()):=by
 refine Tot.is ?_
 rw [eC.eq];unfold eC.B
 refine cW (fun x=>3-x.1.toNat) (fun x=>x.1=0∨x.1=1∧a=0∨x.1=2∧a=0∧b=0∨x.1=3∧a=0∧b=0∧c=0) (.inl rfl) ?_
 rintro ⟨i,_⟩ h
 dsimp only at h ⊢
 rcases h with rfl|⟨rfl,rfl⟩|⟨rfl,rfl,rfl⟩|⟨rfl,rfl,rfl,rfl⟩
 ·simp [gt,eu]
  exact fun h1 h2=>absurd h2 h1
 ·simp [gt,eu]
  exact fun h1 h2=>absurd h2 h1
 ·simp [gt,eu]
 ·simp
theorem cV_t (x y:ax):dc.F (x.1,x.2.1,x.2.2,y.1,y.2.1,y.2.2,())=some (cV x y,()):=by
 rw [dc.eq];unfold dc.B
 have hs:strings_Compare.F (x.2.2,y.2.2,())=some (uk x.2.2 y.2.2,()):=by rw [strings_Compare.eq];rfl
 dsimp only
 rw [cI_t,Option.bind_some,cI_t,Option.bind_some]
 refine (congrArg (fun z=>Option.bind z _) hs).trans ?_
 show Option.bind (eC.F ([cI x.1 y.1,cI x.2.1 y.2.1,uk x.2.2 y.2.2],())) (fun y4=>some (y4.1,()))=_
 rw [or3_i]
 rfl
noncomputable def kc:List ax→List ax→Int
 | [],[]=>0
 | [],_::_=>-1
 |_::_,[]=>1
 |x::a,y::b=>if cV x y≠0 then cV x y else kc a b
theorem rb (x y:ax) (a b:List ax):kc (x::a) (y::b)=if cV x y≠0 then cV x y else kc a b:=by rw [kc]
theorem BO (a b : List ax) (ha : a.length ≤ 1000) : dM.F (a,b,()) = some (kc a b,()) := by
  rw [dM.eq];unfold dM.B
  refine Tot.is (af.2 (Tot.mono (P:=fun y=>y.1=kc a b) ?_ fun y hy=>ah.2 hy))
  rw [dL.eq];unfold dL.B
  refine aR (fun _=>a.length≤b.length∧kc a b=kc [] (b.drop a.length)) ?_ fun _ h=>?_
  · refine cW (fun x=>a.length-x.1.toNat) (fun x=>∃i:Nat,x.1=(i:Int)∧i≤a.length∧i≤b.length∧kc a b=kc (a.drop i) (b.drop i)) ⟨0,rfl,by simp,by simp,by simp⟩ ?_
    rintro ⟨_,_⟩ ⟨i,rfl,h1,h2,h3⟩
    dsimp only
    refine ac.2 ⟨fun h5=>?_,fun h5=>?_⟩
    · simp at h5
      have hw:wr ((i:Int)+1)=((i+1:Nat):Int):=by rw [bF (by omega) (by omega)];omega
      refine ai.2 ⟨by simp;omega,ac.2 ⟨fun h6=>?_,fun h6=>?_⟩⟩
      · simp at h6
        refine aE.2 ?_
        dsimp only
        rw [h3,show b.drop i=[] from List.drop_eq_nil_of_le (by omega),List.drop_eq_getElem_cons h5]
        rfl
      · simp at h6
        simp only [cG h5,cG h6,cV_t,Option.bind_some,hw]
        rw [List.drop_eq_getElem_cons h5,List.drop_eq_getElem_cons h6] at h3
        rw [rb] at h3
        refine ai.2 ⟨by simp;omega,aR (fun x=>x.1=cV a[i] b[i]) (ak.2 rfl) fun x hx=>ac.2 ⟨fun e=>aE.2 ?_,fun e=>ak.2 ⟨⟨i+1,rfl,h5,h6,?_⟩,?_⟩⟩⟩
        · rw [hx] at e
          dsimp only
          rw [h3,if_pos (by simpa using e),hx]
        · rw [hx] at e
          rw [h3,if_neg (by simpa using e)]
        · dsimp only
          omega
    · simp at h5
      have:i=a.length:=by omega
      subst this
      refine aE.2 ⟨h2,?_⟩
      rw [h3,List.drop_length]
  · obtain ⟨h1,h2⟩:=h
    rw [h2]
    refine ac.2 ⟨fun h5=>ah.2 ?_,fun h5=>ah.2 ?_⟩
    · simp at h5
      rw [List.drop_eq_getElem_cons h5]
      rfl
    · simp at h5
      rw [List.drop_eq_nil_of_le h5]
      rfl
end Go.Proofs.Ytpoffnlnhdbpmaa
end
section
set_option maxRecDepth 100000
namespace Go.Proofs.Ytpoffnlnhdbpmaa
open Go Lv Go.Proofs Go.RowKit Go.Shelf
variable [Lk]
omit [Lk] in
theorem eqV {x y:ax}:Ty.eq bh x y=true↔x=y:=by
 obtain ⟨a,b,s⟩:=x
 obtain ⟨c,d,t⟩:=y
 simp [Ty.eq,MapKept.bytes_beq]
omit [Lk] in
theorem neV {x y:ax}:Ty.eq bh x y=false↔x≠y:=by
 rw [←Bool.not_eq_true,eqV]
structure Bn (b:List bC):Prop where
 l:b.length<1000000000000000
 r:∀x∈b,∀r∈x.2,r.1.length<1000000000000000
structure Sb (b:List bC):Prop where
 l:b.length≤6
 r:∀x∈b,x.2.length≤12
 k:∀x∈b,∀r∈x.2,r.1.length≤40
theorem AU (l:List ax) (h:l.length<1000000000000000):Tot (ft.F (l,())) fun y=>y.1=true→l.length≤40:=by
 rw [ft.eq];unfold ft.B
 refine aR (fun _=>True) ?_ fun _ _=>ah.2 fun h=>by simp at h;omega
 refine ic l.length fun i h0 h1=>?_
 simp [eu]
 omega
theorem AV (l:List bj) (hl:l.length≤12) (h:∀r∈l,r.1.length<1000000000000000):Tot (fu.F (l,())) fun y=>y.1=true→∀r∈l,r.1.length≤40:=by
 rw [fu.eq];unfold fu.B
 refine aR (fun _=>∀r∈l,r.1.length≤40) ?_ fun _ h=>ah.2 fun _=>h
 refine iP (l:=l) (fun r:bj=>r.1.length≤40) (fun i hi=>?_) (by simp)
 have hw:wr ((i:Int)+1)=(i:Int)+1:=bF (by omega) (by omega)
 simp only [cG hi,hw]
 refine ac.2 ⟨fun _=>ai.2 ⟨by simp;omega,af.2 ((AU _ (h _ (List.getElem_mem hi))).mono fun y hy=>ac.2 ⟨fun _=>aE.2 (fun h=>by cases h),fun e=>ak.2 ⟨rfl,hy (by simpa using e)⟩⟩)⟩,fun h=>by simp at h;omega⟩
theorem low_t (l:List bj) (hl:l.length≤12) (h:∀r∈l,r.1.length<1000000000000000):Tot (gG.F (l,())) fun y=>y.1=true→∀r∈l,r.1.length≤40:=by
 rw [gG.eq];unfold gG.B
 refine aR (fun _=>True) ?_ fun _ _=>af.2 ((AV l hl h).mono fun y hy=>ah.2 hy)
 refine ic l.length fun i h0 h1=>?_
 simp [eu]
 omega
theorem yU (b:List bC) (hb:Bn b):Tot (ff.F (b,())) fun y=>y.1=true→Sb b:=by
 rw [ff.eq];unfold ff.B
 have hl:=hb.l
 refine aR (fun _=>∀x∈b,x.2.length≤12∧∀r∈x.2,r.1.length≤40) ?_ fun _ h=>ah.2 fun e=>⟨by simp at e;omega,fun x hx=>(h x hx).1,fun x hx=>(h x hx).2⟩
 refine iP (l:=b) (fun x:bC=>x.2.length≤12∧∀r∈x.2,r.1.length≤40) (fun i hi=>?_) (by simp)
 have hw:wr ((i:Int)+1)=(i:Int)+1:=bF (by omega) (by omega)
 simp only [cG hi,hw]
 refine ac.2 ⟨fun _=>ai.2 ⟨by simp;omega,ac.2 ⟨fun _=>aE.2 (fun h=>by cases h),fun e=>?_⟩⟩,fun h=>by simp at h;omega⟩
 simp at e
 refine ai.2 ⟨by simp;omega,af.2 ((low_t _ (by omega) (hb.r _ (List.getElem_mem hi))).mono fun y hy=>ac.2 ⟨fun _=>aE.2 (fun h=>by cases h),fun e'=>ak.2 ⟨rfl,by omega,hy (by simpa using e')⟩⟩)⟩
theorem CD (x y:ax):Tot (dj.F (x.1,x.2.1,x.2.2,y.1,y.2.1,y.2.2,())) fun _=>True:=by
 rw [dj.eq];unfold dj.B
 simp
theorem ux (a b:List ax) (h:a.length≤40):Tot (dk.F (a,b,())) fun _=>True:=by
 rw [dk.eq];unfold dk.B
 refine aR (fun _=>True) ?_ fun _ _=>by simp
 refine ic a.length fun i h0 h1=>ac.2 ⟨fun h5=>ac.2 ⟨fun h6=>?_,fun _=>aE.2 trivial⟩,fun _=>aE.2 trivial⟩
 simp at h5 h6
 refine ai.2 ⟨by simp;omega,ai.2 ⟨by simp;omega,af.2 ((CD _ _).mono fun y _=>?_)⟩⟩
 simp [eu]
 omega
theorem qo (l:List ax):Tot (gh.F (l,())) fun _=>True:=by
 rw [gh.eq];unfold gh.B
 refine ac.2 ⟨fun h=>af.2 (Tot.mono (P:=fun _=>True) ?_ fun _ _=>ah.2 trivial),fun _=>by simp⟩
 simp at h
 rw [gB.eq];unfold gB.B
 refine ic l.length fun i h0 h1=>ac.2 ⟨fun h5=>?_,fun _=>aE.2 trivial⟩
 simp at h5
 refine ai.2 ⟨by simp;omega,af.2 ((sL _ _ _).mono fun y _=>?_)⟩
 simp [eu]
 omega
theorem CE (l:List bj) (h:l.length≤12) (hk:∀r∈l,r.1.length≤40):Tot (gm.F (l,())) fun _=>True:=by
 rw [gm.eq];unfold gm.B
 refine ic l.length fun i h0 h1=>ac.2 ⟨fun h5=>?_,fun _=>aE.2 trivial⟩
 simp at h5
 have w4:wr (i+1)=i+1:=bF (by omega) (by omega)
 have w5:wr (i-1)=i-1:=bF (by omega) (by omega)
 refine aR (fun _=>True) ?_ fun _ _=>by simp [w4];omega
 refine ai.2 ⟨by simp;omega,ac.2 ⟨fun _=>ak.2 trivial,fun _=>ai.2 ⟨by simp;omega,?_⟩⟩⟩
 rw [fQ.eq];unfold fQ.B
 refine af.2 (Tot.mono (P:=fun _=>True) (by simp) fun y _=>ac.2 ⟨fun _=>ak.2 trivial,fun _=>ai.2 ⟨by simp;omega,af.2 ((qo _).mono fun z _=>ac.2 ⟨fun _=>ak.2 trivial,fun _=>ac.2 ⟨fun h6=>?_,fun _=>ak.2 trivial⟩⟩)⟩⟩)
 simp at h6
 simp only [w5]
 have:=hk _ (fJ (z:=dq.z) (i:=i-1) (by omega) (by omega))
 exact ai.2 ⟨by simp;omega,ai.2 ⟨by simp;omega,af.2 ((ux _ _ this).mono fun _ _=>ak.2 trivial)⟩⟩
def tabs (c:List bx):List fR:=(c.filter fun d=>d.1==0).map fun d=>d.2.1
omit [Lk] in
theorem kK {c:List bx} {i:Nat} (h:i<c.length):tabs (c.take (i+1))=tabs (c.take i)++(bif c[i].1==0 then [c[i].2.1] else []):=by
 unfold tabs
 rw [←List.take_append_getElem h,List.filter_append,List.map_append]
 cases e:(c[i].1==0)<;>simp [e]
omit [Lk] in
theorem pq (c:List bx):(tabs c).length≤c.length:=by
 unfold tabs
 rw [List.length_map]
 exact List.length_filter_le _ _
theorem rc (c:List bx) (h:c.length≤1000):dY.F (c,())=some (tabs c,()):=by
 refine Tot.is ?_
 rw [dY.eq];unfold dY.B
 refine cW (fun x=>c.length-x.1.toNat) (fun x=>∃i:Nat,x.1=(i:Int)∧i≤c.length∧x.2.1=tabs (c.take i)) ⟨0,rfl,by omega,rfl⟩ ?_
 rintro ⟨_,o,_⟩ ⟨i,rfl,h1,h2⟩
 dsimp only at h2 ⊢
 subst h2
 have hl:=pq (c.take i)
 simp only [List.length_take] at hl
 refine ac.2 ⟨fun h5=>?_,fun h5=>aE.2 ?_⟩
 ·simp at h5
  have hw:wr ((i:Int)+1)=((i+1:Nat):Int):=by rw [bF (by omega) (by omega)];omega
  simp only [cG h5,hw]
  refine ai.2 ⟨by simp;omega,ac.2 ⟨fun e=>ai.2 ⟨by simp;omega,ai.2 ⟨by simp;omega,ak.2 ⟨⟨i+1,rfl,h5,?_⟩,by dsimp only;omega⟩⟩⟩,fun e=>ak.2 ⟨⟨i+1,rfl,h5,?_⟩,by dsimp only;omega⟩⟩⟩
  ·rw [kK h5,e,cond_true]
  ·rw [kK h5,e,cond_false,List.append_nil]
 ·simp at h5
  rw [List.take_of_length_le (by omega)]
theorem vC (c:List bx) (h:c.length≤1000):cT.F (c,())=some (tabs c,()):=by
 refine Tot.is ?_
 rw [cT.eq];unfold cT.B
 refine cW (fun x=>c.length-x.1.toNat) (fun x=>∃i:Nat,x.1=(i:Int)∧i≤c.length∧x.2.1=tabs (c.take i)) ⟨0,rfl,by omega,rfl⟩ ?_
 rintro ⟨_,o,_⟩ ⟨i,rfl,h1,h2⟩
 dsimp only at h2 ⊢
 subst h2
 have hl:=pq (c.take i)
 simp only [List.length_take] at hl
 refine ac.2 ⟨fun h5=>?_,fun h5=>aE.2 ?_⟩
 ·simp at h5
  have hw:wr ((i:Int)+1)=((i+1:Nat):Int):=by rw [bF (by omega) (by omega)];omega
  simp only [cG h5,hw]
  refine ai.2 ⟨by simp;omega,ac.2 ⟨fun e=>ai.2 ⟨by simp;omega,ak.2 ⟨⟨i+1,rfl,h5,?_⟩,by dsimp only;omega⟩⟩,fun e=>ak.2 ⟨⟨i+1,rfl,h5,?_⟩,by dsimp only;omega⟩⟩⟩
  ·rw [kK h5,e,cond_true]
  ·rw [kK h5,e,cond_false,List.append_nil]
 ·simp at h5
  rw [List.take_of_length_le (by omega)]
abbrev fst0 (l:List ax):ax:=List.getD l 0 bh.z
structure Rw (n:Nat) (l:List bj):Prop where
 e:∀r∈l,r.2=1∧r.1.length=n
 d:l.Pairwise fun q r=>fst0 q.1≠fst0 r.1
theorem vD (n : ByteArray) (cs : List aC) (es : List (List ao)) (l : List bj) (h1 : 1 ≤ cs.length) (h : l.length ≤ 12) : Tot (fE.F (n,cs,es,l,())) fun y => y.1 = true → Rw cs.length l := by
  rw [fE.eq];unfold fE.B
  refine cW (fun x=>l.length-x.1.toNat) (fun x=>∃i:Nat,x.1=(i:Int)∧i≤l.length∧(∀(j:Nat) (hj:j<l.length),j<i→l[j].2=1∧l[j].1.length=cs.length)∧∀(j k:Nat) (hk:k<l.length) (hj:j<k),k<i→fst0 l[j].1≠fst0 l[k].1) ⟨0,rfl,by omega,fun _ _ h=>by omega,fun _ _ _ _ h=>by omega⟩ ?_
  rintro ⟨_,_⟩ ⟨i,rfl,i1,i2,i3⟩
  dsimp only
  refine ac.2 ⟨fun h5=>?_,fun h5=>aE.2 fun _=>?_⟩
  · simp at h5
    have hw:wr ((i:Int)+1)=((i+1:Nat):Int):=by rw [bF (by omega) (by omega)];omega
    simp only [cG h5,hw]
    refine aR (fun _=>(l[i].2=1∧l[i].1.length=cs.length)∧∀(j:Nat) (hj:j<i),fst0 l[j].1≠fst0 l[i].1) ?_ fun _ hq=>ak.2 ⟨⟨i+1,rfl,h5,fun j hj hji=>?_,fun j k hk hjk hki=>?_⟩,by dsimp only;omega⟩
    · refine aR (fun _=>l[i].2=1∧l[i].1.length=cs.length) ?_ fun _ hr=>?_
      · refine ai.2 ⟨by simp;omega,ac.2 ⟨fun _=>aE.2 (fun h=>by cases h),fun e=>ai.2 ⟨by simp;omega,ac.2 ⟨fun _=>aE.2 (fun h=>by cases h),fun e2=>ak.2 ⟨by simpa using e,by simp at e2;omega⟩⟩⟩⟩⟩
      · refine ai.2 ⟨by simp;omega,ai.2 ⟨by rw [jb];omega,ac.2 ⟨fun _=>aE.2 (fun h=>by cases h),fun _=>?_⟩⟩⟩
        refine jQ i (fun j=>∀h:j<l.length,fst0 l[j].1≠fst0 l[i].1) (fun j hj=>?_) (fun hq=>?_)
        · have hw:wr ((j:Int)+1)=(j:Int)+1:=bF (by omega) (by omega)
          have hj':j<l.length:=by omega
          have:=i2 j hj' hj
          simp only [cG hj',hw]
          refine ac.2 ⟨fun _=>ai.2 ⟨by simp;omega,ai.2 ⟨by rw [jb];omega,ai.2 ⟨by simp;omega,ai.2 ⟨by rw [jb];omega,ac.2 ⟨fun _=>aE.2 (fun h=>by cases h),fun e=>ak.2 ⟨rfl,fun _=>neV.1 e⟩⟩⟩⟩⟩⟩,fun h=>by simp at h;omega⟩
        · refine ac.2 ⟨fun h=>by simp at h,fun _=>aE.2 ⟨hr,fun j hj=>hq j hj (by omega)⟩⟩
    · by_cases e:j=i
      · subst e;exact hq.1
      · exact i2 j hj (by omega)
    · by_cases e:k=i
      · subst e;exact hq.2 j hjk
      · exact i3 j k hk hjk (by omega)
  · simp at h5
    refine ⟨fun r hr=>?_,List.pairwise_iff_getElem.2 fun j k hj hk hjk=>i3 j k hk hjk (by omega)⟩
    obtain ⟨j,hj,rfl⟩:=List.getElem_of_mem hr
    exact i2 j hj (by omega)
end Go.Proofs.Ytpoffnlnhdbpmaa
end
section
set_option maxRecDepth 100000
namespace Go.Proofs.Ytpoffnlnhdbpmaa
open Go Lv Go.Proofs Go.RowKit Go.Shelf
variable [Lk]
omit [Lk] in
theorem eS {a b:ByteArray}:sq a b=true↔a=b:=Lib.bytes_beq_iff a b
omit [Lk] in
theorem qp {a b:ByteArray}:sq a b=false↔a≠b:=Lib.bytes_beq_false_iff a b
structure Gb (c:List bx) (b:List bC):Prop where
 n:b.length=(tabs c).length
 m:∀(i:Nat) (h:i<b.length) (h':i<(tabs c).length),b[i].1=(tabs c)[i].1∧Rw (tabs c)[i].2.1.length b[i].2
omit [Lk] in
theorem re {c:List bx} {t:fR} (h:t∈tabs c):∃d∈c,d.1=0∧d.2.1=t:=by
 unfold tabs at h
 obtain ⟨d,hd,e⟩:=List.mem_map.1 h
 obtain ⟨h1,h2⟩:=List.mem_filter.1 hd
 exact ⟨d,h1,by simpa using h2,e⟩
theorem mi {c:List bx} (hc:Gc c) {t:fR} (h:t∈tabs c):1≤t.2.1.length∧t.2.1.length≤400∧t.2.2.length≤400∧∀e∈t.2.2,Ex e:=by
 obtain ⟨d,hd,h0,rfl⟩:=re h
 have hs:=hc.s d hd
 obtain ⟨j,hj,rfl⟩:=List.getElem_of_mem hd
 exact ⟨(hc.g j hj).t h0,hs.s1,hs.s2,hs.s3⟩
theorem yV {c:List bx} (hc:Gc c):(tabs c).Pairwise fun s t=>s.1≠t.1:=by
 have h1:c.Pairwise fun d e=>nmD d≠nmD e:=List.pairwise_iff_getElem.2 fun j k hj hk hjk=>by
  have:=(hc.g k hk).nm
  have:=List.findIdx?_eq_none_iff.1 this c[j] (List.mem_take_iff_getElem.2 ⟨j,by omega,rfl⟩)
  exact qp.1 this
 unfold tabs
 refine List.pairwise_map.2 ((h1.filter _).imp_of_mem ?_)
 intro d e hd he h
 have d0:=(List.mem_filter.1 hd).2
 have e0:=(List.mem_filter.1 he).2
 unfold nmD at h
 simp only [d0,e0,cond_true] at h
 exact h
theorem yW (c:List bx) (hl:c.length≤22) (hs:∀d∈c,Sd d) (b:List bC) (hb:Sb b):Tot (fX.F (c,b,())) fun y=>y.1=true→Gc c∧Gb c b:=by
 rw [fX.eq];unfold fX.B
 refine af.2 ((yF c hl hs).mono fun y hy=>ac.2 ⟨fun _=>ah.2 (fun h=>by cases h),fun e=>?_⟩)
 have hc:=hy (by simpa using e)
 simp only [rc c (by omega),Option.bind_some]
 have hbl:=hb.l
 refine ac.2 ⟨fun _=>ah.2 (fun h=>by cases h),fun e=>?_⟩
 have hn:(tabs c).length=b.length:=by simp at e;omega
 refine jQ (tabs c).length (fun i=>∀(h:i<b.length) (h':i<(tabs c).length),b[i].1=(tabs c)[i].1∧Rw (tabs c)[i].2.1.length b[i].2) (fun i hi=>?_) (fun h=>?_)
 ·have hi':i<b.length:=by omega
  have hw:wr ((i:Int)+1)=(i:Int)+1:=bF (by omega) (by omega)
  have g1:gt b (i:Int) dS.z=b[i]:=cG hi' _
  have g2:List.getD (tabs c) (Int.toNat (i:Int)) io.z=(tabs c)[i]:=cG hi _
  simp only [g1,g2,hw]
  have hm:=List.getElem_mem hi'
  have ht:=mi hc (List.getElem_mem hi)
  refine ac.2 ⟨fun _=>ai.2 ⟨by simp;omega,ai.2 ⟨by simp;omega,ac.2 ⟨fun _=>aE.2 (fun h=>by cases h),fun e=>ai.2 ⟨by simp;omega,?_⟩⟩⟩⟩,fun h=>by simp at h;omega⟩
  refine af.2 ((CE _ (hb.r _ hm) (hb.k _ hm)).mono fun y _=>ac.2 ⟨fun _=>aE.2 (fun h=>by cases h),fun _=>ai.2 ⟨by simp;omega,ai.2 ⟨by simp;omega,?_⟩⟩⟩)
  exact af.2 ((vD _ _ _ _ ht.1 (hb.r _ hm)).mono fun z hz=>ac.2 ⟨fun _=>aE.2 (fun h=>by cases h),fun e'=>ak.2 ⟨rfl,fun _ _=>⟨eS.1 (by simpa using e),hz (by simpa using e')⟩⟩⟩)
 ·exact ac.2 ⟨fun h=>by simp at h,fun _=>aE.2 fun _=>⟨hc,hn.symm,fun i h1 h2=>h i h2 h1 h2⟩⟩
def fl (b:List bC) (s:ByteArray):List bj:=match b.find? fun x=>sq x.1 s with
 |some x=>x.2
 |none=> []
omit [Lk] in
theorem yX (b:List bC) (s:ByteArray):fl b s=[]∨∃x∈b,x.1=s∧fl b s=x.2:=by
 unfold fl
 cases h:b.find? fun x=>sq x.1 s with
 |none=>exact .inl rfl
 |some x=>exact .inr ⟨x,List.mem_of_find?_eq_some h,eS.1 (by have:=List.find?_some h;exact this),rfl⟩
omit [Lk] in
theorem rf {b:List bC} {s:ByteArray} {i:Nat} (h:i<b.length) (h1:b[i].1=s) (h2:∀(j:Nat) (hj:j<i),b[j].1≠s):fl b s=b[i].2:=by
 unfold fl
 have:(b.find? fun x=>sq x.1 s)=some b[i]:=List.find?_eq_some_iff_getElem.2 ⟨eS.2 h1,i,h,rfl,fun j hj=>by rw [qp.2 (h2 j hj)];rfl⟩
 rw [this]
omit [Lk] in
theorem AW {b:List bC} {s:ByteArray} (h:∀x∈b,x.1≠s):fl b s=[]:=by
 unfold fl
 have:(b.find? fun x=>sq x.1 s)=none:=List.find?_eq_none.2 fun x hx=>by rw [qp.2 (h x hx)];simp
 rw [this]
theorem yY (b:List bC) (s:ByteArray) (hb:b.length≤1000):eP.F (b,s,())=some (fl b s,()):=by
 refine Tot.is ?_
 rw [eP.eq];unfold eP.B
 refine cW (fun x=>b.length-x.1.toNat) (fun x=>∃i:Nat,x.1=(i:Int)∧i≤b.length∧∀(j:Nat) (hj:j<b.length),j<i→b[j].1≠s) ⟨0,rfl,by omega,fun j _ h=>by omega⟩ ?_
 rintro ⟨_,u⟩ ⟨i,rfl,h1,h2⟩
 dsimp only
 refine ac.2 ⟨fun h5=>?_,fun h5=>iA.2 (ac.2 ⟨fun _=>ah.2 ?_,fun h=>by simp at h⟩)⟩
 ·simp at h5
  have hw:wr ((i:Int)+1)=((i+1:Nat):Int):=by rw [bF (by omega) (by omega)];omega
  simp only [cG h5,hw]
  refine aR (fun x=>x.1=sq b[i].1 s) (ai.2 ⟨by simp;omega,ak.2 rfl⟩) fun x hx=>ac.2 ⟨fun e=>iA.2 (ac.2 ⟨fun h=>by simp at h;omega,fun _=>ai.2 ⟨by simp;omega,ah.2 ?_⟩⟩),fun e=>ak.2 ⟨⟨i+1,rfl,h5,fun j hj hji=>?_⟩,by dsimp only;omega⟩⟩
  ·rw [hx] at e
   exact (rf h5 (eS.1 e) fun j hj=>h2 j (by omega) hj).symm
  ·rw [hx] at e
   by_cases ej:j=i
   ·subst ej;exact qp.1 e
   ·exact h2 j hj (by omega)
 ·simp at h5
  exact (AW fun x hx=>by
   obtain ⟨j,hj,rfl⟩:=List.getElem_of_mem hx
   exact h2 j hj (by omega)).symm
theorem CF {c:List bx} {b:List bC} (hc:Gc c) (hb:Gb c b) {i:Nat} (h:i<(tabs c).length):fl b (tabs c)[i].1=(b[i]'(by rw [hb.n];exact h)).2:=by
 have h':i<b.length:=by rw [hb.n];exact h
 refine rf h' (hb.m i h' h).1 fun j hj=>?_
 rw [(hb.m j (by omega) (by omega)).1]
 exact List.pairwise_iff_getElem.1 (yV hc) j i (by omega) h hj
end Go.Proofs.Ytpoffnlnhdbpmaa
end
section
set_option maxRecDepth 100000
namespace Go.Proofs.Ytpoffnlnhdbpmaa
open Go Lv Go.Proofs Go.RowKit Go.Shelf
variable [Lk]
def Yes (x:Option (Bool×Unit)):Prop:=x=some (true,())
omit [Lk] in
theorem mj {x:Option (Bool×Unit)} {b:Bool} {u:Unit} (h:x=some (b,u)):Yes x↔b=true:=by
 subst h
 simp [Yes]
theorem CG (n:Int):Tot (fF.F (n,())) fun _=>True:=by
 rw [fF.eq];unfold fF.B
 simp
theorem yZ (l:List ax):Tot (fO.F (l,())) fun _=>True:=by
 rw [fO.eq];unfold fO.B
 refine ac.2 ⟨fun h=>?_,fun _=>by simp⟩
 simp at h
 refine ic l.length fun i h0 h1=>ac.2 ⟨fun h5=>?_,fun _=>aE.2 trivial⟩
 simp at h5
 have w4:wr (i+1)=i+1:=bF (by omega) (by omega)
 refine aR (fun _=>True) ?_ fun _ _=>ac.2 ⟨fun _=>aE.2 trivial,fun _=>by simp [w4];omega⟩
 refine ai.2 ⟨by simp;omega,?_⟩
 rw [eU.eq];unfold eU.B
 exact af.2 (af.2 ((jI _ _ _).mono fun y _=>ah.2 (ak.2 trivial)))
def Rk (r:bj):Prop:=r.2≠0∧Yes (fF.F (r.2,()))∧Yes (fO.F (r.1,()))
def Bk (l:List bj):Prop:=∀(i:Nat) (h:i<l.length),Rk l[i]∧∀(h0:0<i) (h1:i-1<l.length),kc l[i-1].1 l[i].1<0
theorem BP    (l : List bj) (hl : l.length ≤ 12) (hk : ∀ r ∈ l,r.1.length ≤ 40) : Tot (gp.F (l,())) fun y => y.1 = true ↔ Bk l := by
  rw [gp.eq];unfold gp.B
  refine jQ l.length (fun i=>∀(h:i<l.length),Rk l[i]∧∀(h0:0<i) (h1:i-1<l.length),kc l[i-1].1 l[i].1<0) (fun i hi=>?_) fun h=>?_
  · have hw : wr ((i : Int) + 1) = (i : Int) + 1 := bF (by omega) (by omega)
    simp only [cG hi,hw]
    refine ac.2 ⟨fun _=>ai.2 ⟨by simp;omega,aR (fun x=>x.1=true↔¬(Rk l[i]∧∀(h0:0<i) (h1:i-1<l.length),kc l[i-1].1 l[i].1<0)) ?_ fun x hx=>ac.2 ⟨fun e=>aE.2 ?_,fun e=>ak.2 ⟨rfl,fun _=>?_⟩⟩⟩,fun h=>by simp at h;omega⟩
    · refine ac.2 ⟨fun e=>ak.2 ?_,fun e=>?_⟩
      · have e:l[i].2=0:=by simpa using e
        simp only [true_iff]
        exact fun h=>h.1.1 e
      · have e:l[i].2≠0:=by simpa using e
        obtain ⟨⟨b,u⟩,hb,_⟩:=CG l[i].2
        simp only [hb,Option.bind_some]
        refine ac.2 ⟨fun e2=>ak.2 ?_,fun e2=>?_⟩
        · simp only [true_iff]
          intro h
          have:=(mj hb).1 h.1.2.1
          simp [this] at e2
        · obtain ⟨⟨d,v⟩,hd,_⟩:=yZ l[i].1
          simp only [hd,Option.bind_some]
          refine ac.2 ⟨fun e3=>ak.2 ?_,fun e3=>?_⟩
          · simp only [true_iff]
            intro h
            have:=(mj hd).1 h.1.2.2
            simp [this] at e3
          · have hR:Rk l[i]:=⟨e,(mj hb).2 (by simpa using e2),(mj hd).2 (by simpa using e3)⟩
            refine ac.2 ⟨fun e4=>?_,fun e4=>ak.2 ?_⟩
            · simp at e4
              have h1:i-1<l.length:=by omega
              have w1:wr ((i:Int)-1)=((i-1:Nat):Int):=by rw [bF (by omega) (by omega)];omega
              simp only [w1,cG h1]
              refine ai.2 ⟨by simp;omega,?_⟩
              simp only [BO _ _ (show l[i-1].1.length≤1000 by have:=hk _ (List.getElem_mem h1);omega),Option.bind_some,ak]
              simp only [decide_eq_true_eq,not_and,ge_iff_le]
              constructor
              · intro h _ h2
                have:=h2 e4 h1
                omega
              · intro h
                have:=h hR
                have:¬kc l[i-1].1 l[i].1<0:=fun h3=>this fun _ _=>h3
                exact Int.not_lt.1 this
            · simp at e4
              simp only [Bool.false_eq_true,false_iff,Classical.not_not]
              exact ⟨hR,fun h _=>by omega⟩
    · simp only [Bool.false_eq_true,false_iff]
      exact fun h=>(hx.1 e) (h i hi)
    · refine Classical.byContradiction fun h=>?_
      have:=hx.2 h
      rw [e] at this
      cases this
  · exact ac.2 ⟨fun h=>by simp at h,fun _=>aE.2 (by simp only [true_iff];exact fun i hi=>h i hi hi)⟩
structure Ci (x:bC) (t:fR):Prop where
 n:x.1=t.1
 b:Bk x.2
 r:∀(i:Nat) (h:i<x.2.length),(x.2[i].2=1∧x.2[i].1.length=t.2.1.length∧(fst0 x.2[i].1).1≠0)∧∀(h0:0<i) (h1:i-1<x.2.length),fst0 x.2[i-1].1≠fst0 x.2[i].1
structure Cm (c:List bx) (b:List bC):Prop where
 s:Yes (schema_May.F (c,()))
 n:(tabs c).length=b.length
 m:∀(i:Nat) (h:i<b.length) (h':i<(tabs c).length),Ci b[i] (tabs c)[i]
theorem za (c : List bx) (hc : Gc c) (b : List bC) (hb : Sb b) (h1 : ∀ x ∈ b,∀ r ∈ x.2,1 ≤ r.1.length) : Tot (cR.F (c,b,())) fun y => y.1 = true ↔ Cm c b := by
  rw [cR.eq];unfold cR.B
  have hl:=hb.l
  have hcl:=hc.len
  obtain ⟨⟨s,u⟩,hs,_⟩:=CC c hc
  simp only [hs,Option.bind_some,vC c (show c.length≤1000 by omega)]
  refine ac.2 ⟨fun e=>ah.2 ?_,fun e=>ac.2 ⟨fun e2=>ah.2 ?_,fun e2=>?_⟩⟩
  · simp only [Bool.false_eq_true,false_iff]
    intro h
    have:=(mj hs).1 h.s
    simp [this] at e
  · simp only [Bool.false_eq_true,false_iff]
    intro h
    have:=h.n
    simp at e2
    omega
  have hS:Yes (schema_May.F (c,())):=(mj hs).2 (by simpa using e)
  have hn:(tabs c).length=b.length:=by simp at e2;omega
  refine jQ b.length (fun i=>∀(h:i<b.length) (h':i<(tabs c).length),Ci b[i] (tabs c)[i]) (fun i hi=>?_) fun h=>?_
  · have hw : wr ((i : Int) + 1) = (i : Int) + 1 := bF (by omega) (by omega)
    have hi':i<(tabs c).length:=by omega
    have g2:List.getD (tabs c) (Int.toNat (i:Int)) io.z=(tabs c)[i]:=cG hi' _
    simp only [cG hi,hw,g2]
    have hm:=List.getElem_mem hi
    have hrl:=hb.r _ hm
    have hrk:=hb.k _ hm
    have hr1:=h1 _ hm
    have ht:=(mi hc (List.getElem_mem hi')).1
    have no:¬Ci b[i] (tabs c)[i]→¬Cm c b:=fun h h2=>h (h2.m i hi hi')
    refine ac.2 ⟨fun _=>aR (fun _=>Ci b[i] (tabs c)[i]) ?_ fun _ hx=>ak.2 ⟨rfl,fun _ _=>hx⟩,fun h=>by simp at h;omega⟩
    refine ai.2 ⟨by simp;omega,aR (fun _=>b[i].1=(tabs c)[i].1∧Bk b[i].2) ?_ fun _ hx=>?_⟩
    · refine ai.2 ⟨by simp;omega,ac.2 ⟨fun e=>aE.2 ?_,fun e=>af.2 ((BP _ hrl hrk).mono fun y hy=>ac.2 ⟨fun e2=>aE.2 ?_,fun e2=>ak.2 ⟨?_,?_⟩⟩)⟩⟩
      · simp only [Bool.false_eq_true,false_iff]
        refine no fun h=>?_
        rw [eS.2 h.n] at e
        cases e
      · simp only [Bool.false_eq_true,false_iff]
        refine no fun h=>?_
        rw [hy.2 h.b] at e2
        cases e2
      · exact eS.1 (by simpa using e)
      · exact hy.1 (by simpa using e2)
    · refine jQ b[i].2.length (fun j=>∀(h:j<b[i].2.length),(b[i].2[j].2=1∧b[i].2[j].1.length=(tabs c)[i].2.1.length∧(fst0 b[i].2[j].1).1≠0)∧∀(h0:0<j) (h1:j-1<b[i].2.length),fst0 b[i].2[j-1].1≠fst0 b[i].2[j].1) (fun j hj=>?_) fun h=>?_
      · have hw:wr ((j:Int)+1)=(j:Int)+1:=bF (by omega) (by omega)
        simp only [cG hj,hw]
        have hj1:=hr1 _ (List.getElem_mem hj)
        refine ac.2 ⟨fun _=>ai.2 ⟨by simp;omega,aR (fun x=>x.1=true↔¬((b[i].2[j].2=1∧b[i].2[j].1.length=(tabs c)[i].2.1.length∧(fst0 b[i].2[j].1).1≠0)∧∀(h0:0<j) (h1:j-1<b[i].2.length),fst0 b[i].2[j-1].1≠fst0 b[i].2[j].1)) ?_ fun x hx=>ac.2 ⟨fun e=>aE.2 ?_,fun e=>ak.2 ⟨rfl,fun _=>?_⟩⟩⟩,fun h=>by simp at h;omega⟩
        · refine ac.2 ⟨fun e=>ak.2 ?_,fun e=>ai.2 ⟨by simp;omega,ac.2 ⟨fun e2=>ak.2 ?_,fun e2=>ai.2 ⟨by rw [jb];omega,ac.2 ⟨fun e3=>ak.2 ?_,fun e3=>ac.2 ⟨fun e4=>?_,fun e4=>ak.2 ?_⟩⟩⟩⟩⟩⟩
          · simp only [true_iff]
            intro h
            simp [h.1.1] at e
          · simp only [true_iff]
            intro h
            simp [h.1.2.1] at e2
          · simp only [true_iff]
            intro h
            exact h.1.2.2 (by simpa using e3)
          · simp at e4
            have hj':j-1<b[i].2.length:=by omega
            have w1:wr ((j:Int)-1)=((j-1:Nat):Int):=by rw [bF (by omega) (by omega)];omega
            have hj2:=hr1 _ (List.getElem_mem hj')
            simp only [w1,cG hj']
            refine ai.2 ⟨by simp;omega,ai.2 ⟨by rw [jb];omega,ai.2 ⟨by rw [jb];omega,ak.2 ?_⟩⟩⟩
            dsimp only
            rw [eqV]
            constructor
            · intro h h2
              exact h2.2 e4 hj' h
            · intro h
              refine Classical.byContradiction fun h3=>h ⟨⟨by simpa using e,by simp at e2;omega,by simpa using e3⟩,fun _ _=>h3⟩
          · simp at e4
            simp only [Bool.false_eq_true,false_iff,Classical.not_not]
            exact ⟨⟨by simpa using e,by simp at e2;omega,by simpa using e3⟩,fun h _=>by omega⟩
        · simp only [Bool.false_eq_true,false_iff]
          exact no fun h=>(hx.1 e) (h.r j hj)
        · refine Classical.byContradiction fun h=>?_
          have:=hx.2 h
          rw [e] at this
          cases this
      · exact ac.2 ⟨fun h=>by simp at h,fun _=>aE.2 ⟨hx.1,hx.2,fun j hj=>h j hj hj⟩⟩
  · exact ac.2 ⟨fun h=>by simp at h,fun _=>aE.2 (by simp only [true_iff];exact ⟨hS,hn,fun i h1 h2=>h i h1 h1 h2⟩)⟩
end Go.Proofs.Ytpoffnlnhdbpmaa
end
section
set_option maxRecDepth 100000
namespace Go.Proofs.Ytpoffnlnhdbpmaa
open Go Lv Go.Proofs Go.RowKit Go.Shelf
variable [Lk]
theorem zb (ok:Bool) (ks st:List ax) (h:st.length≤100000):Tot (bc.F (ok,ks,st,())) fun y=>y.2.2.2.2.2.1.length≤st.length:=by
 rw [bc.eq];unfold bc.B
 refine ac.2 ⟨fun _=>by simp,fun e=>?_⟩
 simp at e
 have:st.length≠0:=fun h=>e (List.length_eq_zero_iff.1 h)
 have hw:wr ((st.length:Int)-1)=(st.length:Int)-1:=bF (by omega) (by omega)
 simp only [hw]
 exact ai.2 ⟨by simp;omega,ai.2 ⟨by simp;omega,ah.2 (by simp)⟩⟩
theorem AX (a b:Int) (s:ByteArray) (ok:Bool) (ks st:List ax) (h:st.length≤100000):Tot (aQ.F (a,b,s,ok,ks,st,())) fun y=>y.2.2.1.length=st.length+1:=by
 rw [aQ.eq];unfold aQ.B
 simp
 omega
theorem jO (b:Bool):Tot (cq.F (b,())) fun _=>True:=by
 rw [cq.eq];unfold cq.B
 simp
theorem CH (a b:Int) (s:ByteArray) (c d:Int) (t:ByteArray):Tot (eV.F (a,b,s,c,d,t,())) fun _=>True:=by
 rw [eV.eq];unfold eV.B
 refine aR (fun _=>True) ?_ fun _ _=>?_
 ·exact aR (fun _=>True) (by simp) fun _ _=>by simp
 refine aR (fun _=>True) ?_ fun _ _=>by simp
 rw [ef.eq];unfold ef.B
 simp
theorem CI (a b:Int) (s:ByteArray) (c d:Int) (t:ByteArray):Tot (eW.F (a,b,s,c,d,t,())) fun _=>True:=by
 rw [eW.eq];unfold eW.B
 refine aR (fun _=>True) ?_ fun _ _=>?_
 ·exact aR (fun _=>True) (by simp) fun _ _=>by simp
 refine aR (fun _=>True) ?_ fun _ _=>by simp
 rw [eg.eq];unfold eg.B
 simp
theorem CJ (a b:Int) (s:ByteArray) (c d:Int) (t:ByteArray):Tot (eX.F (a,b,s,c,d,t,())) fun _=>True:=by
 rw [eX.eq];unfold eX.B
 refine aR (fun _=>True) ?_ fun _ _=>?_
 ·exact aR (fun _=>True) (by simp) fun _ _=>by simp
 refine aR (fun _=>True) ?_ fun _ _=>by simp
 rw [eh.eq];unfold eh.B
 have am:∀n,Tot (dy.F (n,())) fun _=>True:=fun n=>by
  rw [dy.eq];unfold dy.B
  simp
 have mu:∀n m,Tot (cp.F (n,m,())) fun _=>True:=fun n m=>by
  rw [cp.eq];unfold cp.B
  simp
 refine af.2 (af.2 ((am _).mono fun y _=>af.2 ((am _).mono fun z _=>af.2 ((mu _ _).mono fun u _=>by simp))))
theorem vF (b:Bool) (l:List ax) (h:l.length≤100):Tot (dR.F (b,l,())) fun _=>True:=by
 rw [dR.eq];unfold dR.B
 refine af.2 ((jO _).mono fun y _=>af.2 ((jO _).mono fun z _=>af.2 (Tot.mono (P:=fun _=>True) ?_ fun u _=>ac.2 ⟨fun _=>by simp,fun _=>?_⟩)))
 ·rw [ar.eq];unfold ar.B
  rw [aB.eq];unfold aB.B
  refine af.2 (Tot.mono (P:=fun _=>True) (ic l.length fun i h0 h1=>?_) fun _ _=>by simp)
  simp [eu]
  omega
 ·refine ic l.length fun i h0 h1=>ac.2 ⟨fun h5=>?_,fun _=>iA.2 (by simp)⟩
  simp at h5
  have w4:wr (i+1)=i+1:=bF (by omega) (by omega)
  exact aR (fun _=>True) (ai.2 ⟨by simp;omega,ak.2 trivial⟩) fun _ _=>ac.2 ⟨fun _=>iA.2 (by simp),fun _=>by simp [w4];omega⟩
theorem CK (o a b:Int) (s:ByteArray) (c d:Int) (t:ByteArray):Tot (dC.F (o,a,b,s,c,d,t,())) fun _=>True:=by
 rw [dC.eq];unfold dC.B
 have tr:∀b,Tot (Option.bind (cq.F (b,())) fun y=>some (y.1,y.2.1,y.2.2.1,())) fun _=>True:=fun b=>af.2 ((jO b).mono fun _ _=>ah.2 trivial)
 refine aR (fun _=>True) (by simp) fun _ _=>?_
 have:=cV_t (a,b,s) (c,d,t)
 dsimp only at this
 simp only [this,Option.bind_some]
 exact ac.2 ⟨fun _=>ac.2 ⟨fun _=>tr _,fun _=>ac.2 ⟨fun _=>tr _,fun _=>tr _⟩⟩,fun _=>ac.2 ⟨fun _=>tr _,fun _=>tr _⟩⟩
theorem vdo_t (o a b:Int) (s:ByteArray) (c d:Int) (t:ByteArray):Tot (gH.F (o,a,b,s,c,d,t,())) fun _=>True:=by
 rw [gH.eq];unfold gH.B
 refine ac.2 ⟨fun _=>af.2 ((CH _ _ _ _ _ _).mono fun _ _=>ah.2 trivial),fun _=>ac.2 ⟨fun _=>af.2 ((CI _ _ _ _ _ _).mono fun _ _=>ah.2 trivial),fun _=>ac.2 ⟨fun _=>af.2 ((CJ _ _ _ _ _ _).mono fun _ _=>ah.2 trivial),fun _=>?_⟩⟩⟩
 refine ac.2 ⟨fun _=>?_,fun _=>ac.2 ⟨fun _=>?_,fun _=>ac.2 ⟨fun _=>?_,fun _=>ac.2 ⟨fun _=>af.2 ((jO _).mono fun _ _=>ah.2 trivial),fun _=>af.2 ((CK _ _ _ _ _ _ _).mono fun _ _=>ah.2 trivial)⟩⟩⟩⟩
 ·rw [fG.eq];unfold fG.B
  exact af.2 (af.2 ((vF _ _ (by simp)).mono fun _ _=>ah.2 (ah.2 trivial)))
 ·rw [gi.eq];unfold gi.B
  exact af.2 (af.2 ((vF _ _ (by simp)).mono fun _ _=>ah.2 (ah.2 trivial)))
 ·rw [fH.eq];unfold fH.B
  refine af.2 (af.2 ((jO _).mono fun _ _=>ac.2 ⟨fun _=>af.2 ((jO _).mono fun _ _=>ah.2 (ah.2 trivial)),fun _=>af.2 ((jO _).mono fun _ _=>ac.2 ⟨fun _=>af.2 ((jO _).mono fun _ _=>ah.2 (ah.2 trivial)),fun _=>ah.2 (ah.2 trivial)⟩)⟩))
theorem AY (a b c d:Int) (s:ByteArray) (ok:Bool) (ks st:List ax) (h:st.length≤10000):Tot (bT.F (a,b,c,d,s,ok,ks,st,())) fun y=>y.2.2.2.1.length≤st.length+1:=by
 rw [bT.eq];unfold bT.B
 obtain ⟨⟨t,_⟩,ht,t2,t3⟩:=sX a
 dsimp only at t2 t3
 simp only [ht,Option.bind_some]
 refine aR (fun x=>x.2.2.1.length≤st.length) ?_ ?_
 ·exact ac.2 ⟨fun _=>af.2 ((zb _ _ _ (by omega)).mono fun y hy=>ak.2 hy),fun _=>ak.2 (Nat.le_refl _)⟩
 rintro ⟨ok,ks,st1,v1,v2,v3,_⟩ h1
 dsimp only at h1 ⊢
 refine aR (fun x=>x.2.2.1.length≤st.length) ?_ ?_
 ·exact ac.2 ⟨fun _=>af.2 ((zb _ _ _ (by omega)).mono fun y hy=>ak.2 (by dsimp only;omega)),fun _=>ak.2 h1⟩
 rintro ⟨ok,ks,st2,u1,u2,u3,_⟩ h2
 dsimp only at h2 ⊢
 have dn:∀n,Tot (α:=Int×Bool×List ax×List ax×Unit) (some (n,ok,ks,st2,())) fun y=>y.2.2.2.1.length≤st.length+1:=fun n=>ah.2 (by dsimp only;omega)
 have psh:∀x y z,Tot (Option.bind (aQ.F (x,y,z,ok,ks,st2,())) fun y8=>some ((0:Int),y8.1,y8.2.1,y8.2.2.1,())) fun y=>y.2.2.2.1.length≤st.length+1:=fun x y z=>af.2 ((AX x y z ok ks st2 (by omega)).mono fun y hy=>ah.2 (by dsimp only;omega))
 refine aR (fun x=>x.1=false→0≤t) ?_ fun x hx=>ac.2 ⟨fun _=>dn _,fun e=>?_⟩
 ·exact ac.2 ⟨fun _=>ak.2 (fun h=>by cases h),fun _=>ak.2 (fun h=>by simpa using h)⟩
 have ht0:=hx e
 refine ac.2 ⟨fun _=>ac.2 ⟨fun _=>dn _,fun e1=>ac.2 ⟨fun _=>dn _,fun e2=>?_⟩⟩,fun _=>ac.2 ⟨fun _=>af.2 ((jI _ _ _).mono fun z _=>ac.2 ⟨fun _=>dn _,fun _=>psh _ _ _⟩),fun _=>?_⟩⟩
 ·simp at e1 e2
  exact ai.2 ⟨by simp;omega,psh _ _ _⟩
 ·have w1:wr (2-t)=2-t:=bF (by omega) (by omega)
  simp only [w1]
  refine ai.2 ⟨by simp;omega,af.2 ((qm a _ ?_ ?_).mono fun z _=>ac.2 ⟨fun _=>dn _,fun _=>af.2 ((vdo_t _ _ _ _ _ _ _).mono fun y hy=>ac.2 ⟨fun _=>dn _,fun _=>psh _ _ _⟩)⟩)⟩
  ·simp
   omega
  ·intro h
   have:=t3 h
   subst this
   rfl
theorem CL (e:List ao) (l:List ax):Tot (fg.F (e,l,())) fun _=>True:=by
 rw [fg.eq];unfold fg.B
 refine ac.2 ⟨fun _=>by simp,fun h=>?_⟩
 simp at h
 refine aR (fun _=>True) ?_ fun x _=>?_
 ·refine cW (fun x=>e.length-x.1.toNat) (fun x=>0≤x.1∧x.1≤(e.length:Int)∧(x.2.2.2.1.length:Int)≤x.1) (by simp) ?_
  rintro ⟨i,ok,k,st,_⟩ ⟨i1,i2,i3⟩
  dsimp only at i1 i2 i3 ⊢
  refine ac.2 ⟨fun h5=>?_,fun h5=>aE.2 trivial⟩
  simp at h5
  have hw:wr (i+1)=i+1:=bF (by omega) (by omega)
  refine ai.2 ⟨by simp;omega,af.2 ((AY _ _ _ _ _ _ _ _ (by omega)).mono fun y hy=>ac.2 ⟨fun _=>aE.2 trivial,fun _=>?_⟩)⟩
  simp only [ak,hw]
  exact ⟨⟨by omega,by omega,by omega⟩,by omega⟩
 ·rw [bo.eq];unfold bo.B
  refine af.2 (Tot.mono (P:=fun _=>True) ?_ fun y _=>ac.2 ⟨fun _=>ah.2 trivial,fun _=>ah.2 trivial⟩)
  simp
  omega
end Go.Proofs.Ytpoffnlnhdbpmaa
end
section
set_option maxRecDepth 100000
namespace Go.Proofs.Ytpoffnlnhdbpmaa
open Go Lv Go.Proofs Go.RowKit Go.Shelf
variable [Lk]
abbrev vl (r:bj) (k:Nat):ax:=List.getD r.1 k bh.z
omit [Lk] in
theorem uy {α:Type} (xs:List α) (k:Nat) (z:α):gt xs (k:Int) z=List.getD xs k z:=by
 unfold gt
 rw [Int.toNat_natCast]
def okK (v:ax) (c:aC):Prop:=v.1=c.2.1∨(c.2.2.1=true∧v.1=0)
def Kd (cs:List aC) (rows:List bj):Prop:=∀r∈rows,∀(k:Nat) (h:k<cs.length),okK (vl r k) cs[k]
omit [Lk] in
theorem rg {y:Int} {P:Prop} (h:0≤y) (h2:¬P):y<0↔P:=⟨fun h3=>by omega,fun h3=>absurd h3 h2⟩
theorem AZ (n : ByteArray) (cs : List aC) (es : List (List ao)) (rows : List bj) (b : List bC) (hc : cs.length ≤ 400) (hr : rows.length ≤ 12) (hl : ∀ r ∈ rows,r.1.length = cs.length) :
    Tot (bS.F (n,cs,es,rows,b,())) fun y=>y.1<0↔Kd cs rows:=by
  rw [bS.eq];unfold bS.B
  refine iP (l:=rows) (fun r=>∀(k:Nat) (h:k<cs.length),okK (vl r k) cs[k]) (fun i hi=>?_) fun h=>?_
  · have hw:wr ((i:Int)+1)=(i:Int)+1:=bF (by omega) (by omega)
    have hL:=hl _ (List.getElem_mem hi)
    simp only [cG hi,hw]
    refine ac.2 ⟨fun _=>aR (fun _=>∀(k:Nat) (h:k<cs.length),okK (vl rows[i] k) cs[k]) (ai.2 ⟨by simp;omega,?_⟩) fun _ hx=>ak.2 ⟨rfl,hx⟩,fun h=>by simp at h;omega⟩
    refine jQ rows[i].1.length (fun k=>∀(h:k<cs.length),okK (vl rows[i] k) cs[k]) (fun k hk=>?_) fun h=>?_
    · have hw:wr ((k:Int)+1)=(k:Int)+1:=bF (by omega) (by omega)
      have hk':k<cs.length:=by omega
      simp only [cG hk',uy,hw]
      have no:¬okK (vl rows[i] k) cs[k]→¬Kd cs rows:=fun h h2=>h (h2 _ (List.getElem_mem hi) k hk')
      refine ac.2 ⟨fun _=>ai.2 ⟨by simp;omega,ai.2 ⟨by simp;omega,ac.2 ⟨fun e=>ac.2 ⟨fun e2=>ac.2 ⟨fun e3=>aE.2 ?_,fun e3=>ak.2 ⟨rfl,fun _=>?_⟩⟩,fun e2=>aE.2 ?_⟩,fun e=>ak.2 ⟨rfl,fun _=>?_⟩⟩⟩⟩,fun h=>by simp at h;omega⟩
      · refine rg (by simp) (no ?_)
        rintro (h|h)
        · exact absurd h (by simpa using e)
        · exact absurd h.2 (by simpa using e3)
      · exact .inr ⟨e2,by simpa using e3⟩
      · refine rg (by simp) (no ?_)
        rintro (h|h)
        · exact absurd h (by simpa using e)
        · rw [h.1] at e2;cases e2
      · exact .inl (by simpa using e)
    · exact ac.2 ⟨fun h=>by simp at h,fun _=>aE.2 fun k hk=>h k (by omega) hk⟩
  · exact ac.2 ⟨fun h=>by simp at h,fun _=>aE.2 ⟨fun _=>h,fun _=>by simp⟩⟩
abbrev kW (v:ax):Value:=kV v.1 v.2.1 v.2.2
omit [Lk] in
theorem tb (v u:ax):kEq (kW v) (kW u)=true↔v=u:=by
 obtain ⟨a,b,s⟩:=v
 obtain ⟨c,d,t⟩:=u
 simp [kW,kV,kEq,MapKept.bytes_beq]
omit [Lk] in
theorem tc {v u:ax} (h:v≠u):kEq (kW v) (kW u)=false:=by
 rw [←Bool.not_eq_true,tb]
 exact h
structure Mp (m:List (Value×Bool)) (S:ax→Prop):Prop where
 k:∀p∈m,∃v:ax,p.1=kW v
 s:∀v:ax,Option.getD (getKV (kW v) m) false=true↔S v
omit [Lk] in
theorem vG (u v : ax) : ∀ (m : List (Value × Bool)),(∀ p ∈ m,∃ v : ax,p.1 = kW v) → (v = u → getKV (kW v) (fc (kW u) true m) = some true) ∧ (v ≠ u → getKV (kW v) (fc (kW u) true m) = getKV (kW v) m)
  | [],_=>by
    constructor
    · rintro rfl
      simp only [fc,getKV,(tb _ _).2 rfl,cond_true]
    · intro h
      simp only [fc,getKV,tc h,cond_false]
  | (k,x) :: r,h => by
    obtain ⟨w,hw⟩:=h (k,x) (by simp)
    dsimp only at hw
    subst hw
    have ih:=vG u v r fun p hp=>h p (by simp [hp])
    by_cases e:u=w
    · subst e
      constructor
      · rintro rfl
        simp only [fc,getKV,(tb _ _).2 rfl,cond_true]
      · intro h
        simp only [fc,getKV,(tb _ _).2 rfl,cond_true,tc h,cond_false]
    · by_cases e2:v=w
      · subst e2
        constructor
        · exact fun h=>absurd h.symm e
        · intro _
          simp only [fc,getKV,tc e,cond_false,(tb _ _).2 rfl,cond_true]
      · simp only [fc,getKV,tc e,cond_false,tc e2]
        exact ih
omit [Lk] in
theorem BQ (u:ax):∀(m:List (Value×Bool)),(∀p∈m,∃v:ax,p.1=kW v)→∀p∈fc (kW u) true m,∃v:ax,p.1=kW v
  | [],_,p,hp=>by
    simp only [fc,List.mem_singleton] at hp
    exact ⟨u,by rw [hp]⟩
  |(k,x)::r,h,p,hp=>by
    unfold fc at hp
    cases e:kEq (kW u) k with
    |true=>
      rw [e,cond_true] at hp
      rcases List.mem_cons.1 hp with rfl|hp
      · exact h (k,x) (by simp)
      · exact h p (by simp [hp])
    |false=>
      rw [e,cond_false] at hp
      rcases List.mem_cons.1 hp with rfl|hp
      · exact h (k,x) (by simp)
      · exact BQ u r (fun p hp=>h p (by simp [hp])) p hp
omit [Lk] in
theorem Mp.nil:Mp [] fun _=>False:=⟨fun p h=>(by cases h),fun v=>by simp [getKV]⟩
omit [Lk] in
theorem Mp.put {m:List (Value×Bool)} {S T:ax→Prop} (h:Mp m S) (u:ax) (ht:∀v,T v↔v=u∨S v):Mp (fc (kW u) true m) T:=⟨BQ u m h.k,fun v=>by
 have:=vG u v m h.k
 rw [ht]
 by_cases e:v=u
 ·rw [this.1 e];simp [e]
 ·rw [this.2 e,h.s];simp [e]⟩
def Uq (cs:List aC) (rows:List bj):Prop:=∀(k:Nat) (h:k<cs.length),cs[k].2.2.2.1=true→∀(i j:Nat) (hj:j<rows.length) (hij:i<j),(vl rows[j] k).1≠0→vl rows[i] k≠vl rows[j] k
theorem zc (n : ByteArray) (cs : List aC) (es : List (List ao)) (rows : List bj) (b : List bC) (hc : cs.length ≤ 400) (hr : rows.length ≤ 12) (hl : ∀ r ∈ rows,r.1.length = cs.length) :
    Tot (bM.F (n,cs,es,rows,b,())) fun y=>y.1<0↔Uq cs rows:=by
  rw [bM.eq];unfold bM.B
  refine jQ cs.length (fun k=>∀(h:k<cs.length),cs[k].2.2.2.1=true→∀(i j:Nat) (hj:j<rows.length) (hij:i<j),(vl rows[j] k).1≠0→vl rows[i] k≠vl rows[j] k) (fun k hk=>?_) fun h=>?_
  · have hw:wr ((k:Int)+1)=(k:Int)+1:=bF (by omega) (by omega)
    simp only [cG hk,hw]
    refine ac.2 ⟨fun _=>aR (fun _=>cs[k].2.2.2.1=true→∀(i j:Nat) (hj:j<rows.length) (hij:i<j),(vl rows[j] k).1≠0→vl rows[i] k≠vl rows[j] k) (ai.2 ⟨by simp;omega,?_⟩) fun _ hx=>ak.2 ⟨rfl,fun _=>hx⟩,fun h=>by simp at h;omega⟩
    refine ac.2 ⟨fun e=>ak.2 fun h=>(by rw [h] at e;cases e),fun e=>?_⟩
    have hu:cs[k].2.2.2.1=true:=by simpa using e
    refine cW (fun x=>rows.length-x.1.toNat) (fun x=>∃i:Nat,x.1=(i:Int)∧i≤rows.length∧Mp x.2.1 (fun v=>∃(j:Nat) (h:j<rows.length),j<i∧vl rows[j] k=v)∧∀(p q:Nat) (hq:q<rows.length) (hpq:p<q),q<i→(vl rows[q] k).1≠0→vl rows[p] k≠vl rows[q] k) ⟨0,rfl,by omega,⟨fun p h=>(by cases h),fun v=>by simp [getKV]⟩,fun _ _ _ _ h=>by omega⟩ ?_
    rintro ⟨_,m,_⟩ ⟨i,rfl,i1,i2,i3⟩
    dsimp only at i2 i3 ⊢
    refine ac.2 ⟨fun h5=>?_,fun h5=>aE.2 fun _ p q hq hpq=>i3 p q hq hpq (by simp at h5;omega)⟩
    simp at h5
    have hw:wr ((i:Int)+1)=((i+1:Nat):Int):=by rw [bF (by omega) (by omega)];omega
    have hL:=hl _ (List.getElem_mem h5)
    simp only [cG h5,uy,hw]
    have put:Mp (fc (kW (vl rows[i] k)) true m) (fun v=>∃(j:Nat) (h:j<rows.length),j<i+1∧vl rows[j] k=v):=i2.put _ fun v=>by
      constructor
      · rintro ⟨j,hj,hji,rfl⟩
        by_cases e:j=i
        · subst e;exact .inl rfl
        · exact .inr ⟨j,hj,by omega,rfl⟩
      · rintro (rfl|⟨j,hj,hji,rfl⟩)
        · exact ⟨i,h5,by omega,rfl⟩
        · exact ⟨j,hj,by omega,rfl⟩
    refine ai.2 ⟨by simp;omega,ai.2 ⟨by simp;omega,ac.2 ⟨fun e=>ac.2 ⟨fun e2=>aE.2 ?_,fun e2=>ak.2 ⟨⟨i+1,rfl,h5,put,fun p q hq hpq hqi hz=>?_⟩,by dsimp only;omega⟩⟩,fun e=>ak.2 ⟨⟨i+1,rfl,h5,put,fun p q hq hpq hqi hz=>?_⟩,by dsimp only;omega⟩⟩⟩⟩
    · refine rg (by simp) fun h=>?_
      obtain ⟨j,hj,hji,ej⟩:=(i2.s _).1 e2
      exact h k hk hu j i h5 hji (by simpa using e) ej
    · by_cases eq:q=i
      · subst eq
        intro ej
        have:=(i2.s (vl rows[q] k)).2 ⟨p,by omega,hpq,ej⟩
        rw [this] at e2
        cases e2
      · exact i3 p q hq hpq (by omega) hz
    · by_cases eq:q=i
      · subst eq
        exact absurd (by simpa using e) hz
      · exact i3 p q hq hpq (by omega) hz
  · exact ac.2 ⟨fun h=>by simp at h,fun _=>aE.2 ⟨fun _ k hk=>h k hk hk,fun _=>by simp⟩⟩
end Go.Proofs.Ytpoffnlnhdbpmaa
end
section
set_option maxRecDepth 100000
namespace Go.Proofs.Ytpoffnlnhdbpmaa
open Go Lv Go.Proofs Go.RowKit Go.Shelf
variable [Lk]
abbrev zV:ax:=((0:Int),((0:Int),(⟨#[]⟩:ByteArray)))
def Rf (cs:List aC) (rows:List bj) (b:List bC):Prop:=∀(k:Nat) (h:k<cs.length),cs[k].2.2.2.2.1≠(⟨#[]⟩:ByteArray)→∀r∈rows,vl r k=zV∨∃q∈fl b cs[k].2.2.2.2.1,fst0 q.1=vl r k
theorem A0 (n : ByteArray) (cs : List aC) (es : List (List ao)) (rows : List bj) (b : List bC) (hc : cs.length ≤ 400) (hr : rows.length ≤ 12) (hl : ∀ r ∈ rows,r.1.length = cs.length) (hb : Sb b) (h1 : ∀ x ∈ b,∀ r ∈ x.2,1 ≤ r.1.length) :
    Tot (cf.F (n,cs,es,rows,b,())) fun y=>y.1<0↔Rf cs rows b:=by
  rw [cf.eq];unfold cf.B
  have hbl:=hb.l
  refine jQ cs.length (fun k=>∀(h:k<cs.length),cs[k].2.2.2.2.1≠(⟨#[]⟩:ByteArray)→∀r∈rows,vl r k=zV∨∃q∈fl b cs[k].2.2.2.2.1,fst0 q.1=vl r k) (fun k hk=>?_) fun h=>?_
  · have hw : wr ((k : Int) + 1) = (k : Int) + 1 := bF (by omega) (by omega)
    simp only [cG hk,hw]
    refine ac.2 ⟨fun _=>aR (fun _=>cs[k].2.2.2.2.1≠(⟨#[]⟩:ByteArray)→∀r∈rows,vl r k=zV∨∃q∈fl b cs[k].2.2.2.2.1,fst0 q.1=vl r k) (ai.2 ⟨by simp;omega,?_⟩) fun _ hx=>ak.2 ⟨rfl,fun _=>hx⟩,fun h=>by simp at h;omega⟩
    refine ac.2 ⟨fun e=>ak.2 fun h=>absurd (eS.1 e) h,fun e=>?_⟩
    have hne:=qp.1 e
    have hf:(fl b cs[k].2.2.2.2.1).length≤12∧∀r∈fl b cs[k].2.2.2.2.1,1≤r.1.length:=by
      rcases yX b cs[k].2.2.2.2.1 with h|⟨x,hx,_,h⟩
      · rw [h];simp
      · rw [h];exact ⟨hb.r x hx,h1 x hx⟩
    simp only [yY b _ (show b.length≤1000 by omega),Option.bind_some]
    generalize hys:fl b cs[k].2.2.2.2.1=ys at hf ⊢
    refine aR (fun x=>Mp x.1 (fun v=>v=zV∨∃q∈ys,fst0 q.1=v)) ?_ fun x hm=>?_
    · refine cW (fun x=>ys.length-x.1.toNat) (fun x=>∃i:Nat,x.1=(i:Int)∧i≤ys.length∧Mp x.2.1 (fun v=>v=zV∨∃(j:Nat) (h:j<ys.length),j<i∧fst0 ys[j].1=v)) ⟨0,rfl,by omega,Mp.nil.put zV fun v=>by simp⟩ ?_
      rintro ⟨_,m,_⟩ ⟨i,rfl,i1,i2⟩
      dsimp only at i2 ⊢
      refine ac.2 ⟨fun h5=>?_,fun h5=>aE.2 ⟨i2.k,fun v=>(i2.s v).trans ?_⟩⟩
      · simp at h5
        have hw:wr ((i:Int)+1)=((i+1:Nat):Int):=by rw [bF (by omega) (by omega)];omega
        have:=hf.2 _ (List.getElem_mem h5)
        simp only [cG h5,hw]
        refine ai.2 ⟨by simp;omega,ai.2 ⟨by rw [jb];omega,ak.2 ⟨⟨i+1,rfl,h5,i2.put _ fun v=>?_⟩,by dsimp only;omega⟩⟩⟩
        constructor
        · rintro (rfl|⟨j,hj,hji,rfl⟩)
          · exact .inr (.inl rfl)
          · by_cases e:j=i
            · subst e;exact .inl rfl
            · exact .inr (.inr ⟨j,hj,by omega,rfl⟩)
        · rintro (rfl|rfl|⟨j,hj,hji,rfl⟩)
          · exact .inr ⟨i,h5,by omega,rfl⟩
          · exact .inl rfl
          · exact .inr ⟨j,hj,by omega,rfl⟩
      · simp at h5
        constructor
        · rintro (rfl|⟨j,hj,hji,rfl⟩)
          · exact .inl rfl
          · exact .inr ⟨_,List.getElem_mem hj,rfl⟩
        · rintro (rfl|⟨q,hq,rfl⟩)
          · exact .inl rfl
          · obtain ⟨j,hj,rfl⟩:=List.getElem_of_mem hq
            exact .inr ⟨j,hj,by omega,rfl⟩
    · refine iP (l:=rows) (fun r=>vl r k=zV∨∃q∈ys,fst0 q.1=vl r k) (fun i hi=>?_) fun h=>?_
      · have hw:wr ((i:Int)+1)=(i:Int)+1:=bF (by omega) (by omega)
        have hL:=hl _ (List.getElem_mem hi)
        simp only [cG hi,uy,hw]
        refine ac.2 ⟨fun _=>ai.2 ⟨by simp;omega,ai.2 ⟨by simp;omega,ac.2 ⟨fun e=>aE.2 ?_,fun e=>ak.2 ⟨rfl,?_⟩⟩⟩⟩,fun h=>by simp at h;omega⟩
        · refine rg (by simp) fun h=>?_
          have:=h k hk hne _ (List.getElem_mem hi)
          rw [hys] at this
          have:=(hm.s (vl rows[i] k)).2 this
          rw [this] at e
          cases e
        · exact (hm.s (vl rows[i] k)).1 (by simpa using e)
      · exact ac.2 ⟨fun h=>by simp at h,fun _=>aE.2 fun _=>h⟩
  · exact ac.2 ⟨fun h=>by simp at h,fun _=>aE.2 ⟨fun _ k hk=>h k hk hk,fun _=>by simp⟩⟩
def Ev (e:List ao) (l:List ax):Prop:=Tot (fg.F (e,l,())) fun y=>y.2.2.2.1=0∧(y.1,(y.2.1,y.2.2.1))≠((1:Int),((0:Int),(⟨#[]⟩:ByteArray)))
def Ck' (es:List (List ao)) (rows:List bj):Prop:=∀e∈es,∀r∈rows,Ev e r.1
theorem zd (n : ByteArray) (cs : List aC) (es : List (List ao)) (rows : List bj) (b : List bC) (he : es.length ≤ 400) (hr : rows.length ≤ 12) :
    Tot (bN.F (n,cs,es,rows,b,())) fun y=>y.2.1=0↔Ck' es rows:=by
  rw [bN.eq];unfold bN.B
  refine iP (l:=es) (fun e=>∀r∈rows,Ev e r.1) (fun i hi=>?_) fun h=>?_
  · have hw:wr ((i:Int)+1)=(i:Int)+1:=bF (by omega) (by omega)
    simp only [cG hi,hw]
    refine ac.2 ⟨fun _=>aR (fun _=>∀r∈rows,Ev es[i] r.1) (ai.2 ⟨by simp;omega,?_⟩) fun _ hx=>ak.2 ⟨rfl,hx⟩,fun h=>by simp at h;omega⟩
    refine iP (l:=rows) (fun r=>Ev es[i] r.1) (fun j hj=>?_) fun h=>?_
    · have hw:wr ((j:Int)+1)=(j:Int)+1:=bF (by omega) (by omega)
      obtain ⟨y,hy,_⟩:=CL es[i] rows[j].1
      have hv:cq.F (false,())=some ((1:Int),(0:Int),(⟨#[]⟩:ByteArray),()):=by rw [cq.eq];rfl
      have no:∀z:Int,z≠0→¬Ev es[i] rows[j].1→(z=0↔Ck' es rows):=fun z hz h=>⟨fun h2=>absurd h2 hz,fun h2=>absurd (h2 _ (List.getElem_mem hi) _ (List.getElem_mem hj)) h⟩
      simp only [cG hj,hw,hy,Option.bind_some,hv]
      refine ac.2 ⟨fun _=>ai.2 ⟨by simp;omega,ac.2 ⟨fun e=>aE.2 ?_,fun e=>ac.2 ⟨fun e2=>aE.2 ?_,fun e2=>ak.2 ⟨rfl,?_⟩⟩⟩⟩,fun h=>by simp at h;omega⟩
      · refine no _ (by simpa using e) fun h=>?_
        unfold Ev at h
        rw [hy] at h
        have:=(ah.1 h).1
        simp [this] at e
      · refine no _ (by simp) fun h=>?_
        unfold Ev at h
        rw [hy] at h
        exact (ah.1 h).2 (eqV.1 e2)
      · show Ev es[i] rows[j].1
        unfold Ev
        rw [hy]
        exact ah.2 ⟨by simpa using e,neV.1 e2⟩
    · exact ac.2 ⟨fun h=>by simp at h,fun _=>aE.2 fun r hr=>h r hr⟩
  · exact ac.2 ⟨fun h=>by simp at h,fun _=>aE.2 ⟨fun _=>h,fun _=>rfl⟩⟩
structure Tb (t:fR) (b:List bC):Prop where
 k:Kd t.2.1 (fl b t.1)
 u:Uq t.2.1 (fl b t.1)
 r:Rf t.2.1 (fl b t.1) b
 c:Ck' t.2.2 (fl b t.1)
theorem vI (t:fR) (b:List bC) (hc:t.2.1.length≤400) (he:t.2.2.length≤400) (hl:∀r∈fl b t.1,r.1.length=t.2.1.length) (hb:Sb b) (h1:∀x∈b,∀r∈x.2,1≤r.1.length):
 Tot (dd.F (t.1,t.2.1,t.2.2,b,())) fun y=>y.1=0↔Tb t b:=by
 rw [dd.eq];unfold dd.B
 have hbl:=hb.l
 have hf:(fl b t.1).length≤12:=by
  rcases yX b t.1 with h|⟨x,hx,_,h⟩
  ·rw [h];simp
  ·rw [h];exact hb.r x hx
 simp only [yY b _ (show b.length≤1000 by omega),Option.bind_some]
 have no:∀z:Int,z≠0→¬Tb t b→(z=0↔Tb t b):=fun z hz h=>⟨fun h2=>absurd h2 hz,fun h2=>absurd h2 h⟩
 refine aR (fun _=>Kd t.2.1 (fl b t.1)∧Uq t.2.1 (fl b t.1)∧Rf t.2.1 (fl b t.1) b) ?_ fun _ hx=>?_
 ·refine aR (fun x=>x.1<0↔Kd t.2.1 (fl b t.1)) (af.2 ((AZ _ _ _ _ _ hc hf hl).mono fun y hy=>ak.2 hy)) fun x hk=>ac.2 ⟨fun e=>aE.2 (no _ (by simp) fun h=>?_),fun e=>?_⟩
  ·have:=hk.2 h.k
   simp at e;omega
  refine aR (fun x=>x.1<0↔Uq t.2.1 (fl b t.1)) (af.2 ((zc _ _ _ _ _ hc hf hl).mono fun y hy=>ak.2 hy)) fun x2 hu=>ac.2 ⟨fun e2=>aE.2 (no _ (by simp) fun h=>?_),fun e2=>?_⟩
  ·have:=hu.2 h.u
   simp at e2;omega
  refine aR (fun x=>x.1<0↔Rf t.2.1 (fl b t.1) b) (af.2 ((A0 _ _ _ _ _ hc hf hl hb h1).mono fun y hy=>ak.2 hy)) fun x3 hr=>ac.2 ⟨fun e3=>aE.2 (no _ (by simp) fun h=>?_),fun e3=>ak.2 ⟨hk.1 ?_,hu.1 ?_,hr.1 ?_⟩⟩
  ·have:=hr.2 h.r
   simp at e3;omega
  ·simp at e;omega
  ·simp at e2;omega
  ·simp at e3;omega
 ·refine af.2 ((zd _ _ _ _ _ he hf).mono fun y hy=>ac.2 ⟨fun e=>ah.2 (no _ (by simpa using e) fun h=>?_),fun e=>ah.2 ⟨fun _=>⟨hx.1,hx.2.1,hx.2.2,hy.1 (by simpa using e)⟩,fun _=>rfl⟩⟩)
  have:=hy.2 h.c
  simp [this] at e
theorem Cm.fl {c:List bx} {b:List bC} (hc:Gc c) (h:Cm c b) {i:Nat} (hi:i<(tabs c).length) (hi':i<b.length):fl b (tabs c)[i].1=b[i].2:=by
 refine rf hi' (h.m i hi' hi).n fun j hj=>?_
 rw [(h.m j (by omega) (by omega)).n]
 exact List.pairwise_iff_getElem.1 (yV hc) j i (by omega) hi hj
structure Fi (c:List bx) (b:List bC):Prop where
 m:Cm c b
 t:∀t∈tabs c,Tb t b
theorem A1 (c:List bx) (hc:Gc c) (b:List bC) (hb:Sb b) (h1:∀x∈b,∀r∈x.2,1≤r.1.length):Tot (cz.F (c,b,())) fun y=>y.1=0↔Fi c b:=by
 rw [cz.eq];unfold cz.B
 have hcl:=hc.len
 have no:∀z:Int,z≠0→¬Fi c b→(z=0↔Fi c b):=fun z hz h=>⟨fun h2=>absurd h2 hz,fun h2=>absurd h2 h⟩
 refine af.2 ((za c hc b hb h1).mono fun y hy=>ac.2 ⟨fun e=>ah.2 (no _ (by simp) fun h=>?_),fun e=>?_⟩)
 ·have:=hy.2 h.m
  simp [this] at e
 have hm:=hy.1 (by simpa using e)
 refine aR (fun _=>∀t∈tabs c,Tb t b) ?_ fun _ hx=>ah.2 ⟨fun _=>⟨hm,hx⟩,fun _=>rfl⟩
 refine iP (l:=c) (fun d=>d.1=0→Tb d.2.1 b) (fun i hi=>?_) fun h=>?_
 ·have hw:wr ((i:Int)+1)=(i:Int)+1:=bF (by omega) (by omega)
  simp only [cG hi,hw]
  refine ac.2 ⟨fun _=>ai.2 ⟨by simp;omega,ac.2 ⟨fun e=>ak.2 ⟨rfl,fun h=>by simp [h] at e⟩,fun e=>?_⟩⟩,fun h=>by simp at h;omega⟩
  have h0:c[i].1=0:=by simpa using e
  have ht:c[i].2.1∈tabs c:=List.mem_map.2 ⟨c[i],List.mem_filter.2 ⟨List.getElem_mem hi,by simp [h0]⟩,rfl⟩
  have hok:=mi hc ht
  have hl:∀r∈fl b c[i].2.1.1,r.1.length=c[i].2.1.2.1.length:=by
   obtain ⟨j,hj,ej⟩:=List.getElem_of_mem ht
   have hj':j<b.length:=by have:=hm.n;omega
   rw [←ej,hm.fl hc hj hj']
   intro r hr
   obtain ⟨k,hk,rfl⟩:=List.getElem_of_mem hr
   exact ((hm.m j hj' hj).r k hk).1.2.1
  refine af.2 ((vI c[i].2.1 b hok.2.1 hok.2.2.1 hl hb h1).mono fun z hz=>ac.2 ⟨fun e2=>aE.2 (no _ (by simpa using e2) fun h=>?_),fun e2=>ak.2 ⟨rfl,fun _=>hz.1 (by simpa using e2)⟩⟩)
  have:=hz.2 (h.t _ ht)
  simp [this] at e2
 ·refine ac.2 ⟨fun h=>by simp at h,fun _=>aE.2 fun t ht=>?_⟩
  obtain ⟨d,hd,h0,rfl⟩:=re ht
  exact h d hd h0
end Go.Proofs.Ytpoffnlnhdbpmaa
end
