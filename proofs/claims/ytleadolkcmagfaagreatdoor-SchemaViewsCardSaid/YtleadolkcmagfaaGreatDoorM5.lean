import Derived.Test.YtleadolkcmagfaaGreatDoorM4
import Derived.Lib.AtoiAll
set_option linter.all false
set_option linter.unusedVariables false
set_option linter.unusedSimpArgs false
set_option linter.unusedSectionVars false
section
namespace Go.Proofs.Ytleadolkcmagfaa
open Go Lv Go.Proofs Go.RowKit Go.Shelf Dl
theorem F4 {b:ByteArray} (h:isName b=true):b.size≤30:=by
 simp only [isName,jC,Bool.and_eq_true] at h
 have h:=h.1
 have hb:b.size=b.data.toList.length:=rfl
 rw [hb]
 cases hl:b.data.toList with
 |nil=>simp
 |cons c r=>rw [hl] at h;simp only [gB,Bool.and_eq_true,decide_eq_true_eq] at h;exact h.2
theorem CE (s : List UInt8) : ke s = (FO,60) ∨ ke s = (FO,70) ∨ ∃ d,ke s = (d,0) ∧ mA d := by
  unfold ke
  split
  · exact .inl rfl
  · cases h1:jB s with
    |none=>exact .inl rfl
    |some l=>
      cases h2:lm l with
      |none=>right;left;simp only [h2]
      |some d=>
        right;right
        exact ⟨d,by simp only [h2],(Cp (AM _ s (Nat.le_refl _) l h1).1 h2).2.2⟩
theorem HX {d:Dl.Def} (h:fo d≠ []):ke (fo d)=(d,0):=by
 unfold fo at h ⊢
 split at h
 ·exact absurd rfl h
 ·split at h
  ·rename_i g1 g2;rw [if_neg g1,if_pos g2];exact g2
  ·exact absurd rfl h
end Go.Proofs.Ytleadolkcmagfaa
end
section
set_option maxRecDepth 100000
namespace Go.Proofs.Ytleadolkcmagfaa
open Go Lv Go.Proofs Go.RowKit Go.Shelf Dl
theorem rL {t b n:Nat} (hb:PP.bytesOf t=b) (h0:0<b) (h:n*PP.bytesOf t≤reachBytes):n<1000000000000000:=by
 rw [hb] at h
 have:n*1≤n*b:=Nat.mul_le_mul_left n h0
 unfold reachBytes at h
 omega
theorem p6 {n:Int} (h:(Lit.int .i64 n).wf=true):I64 n:=by
 simp only [Lit.wf,Bool.and_eq_true,decide_eq_true_eq] at h
 have hm:IntKind.i64.min=-9223372036854775808:=by decide
 have hM:IntKind.i64.max=9223372036854775807:=by decide
 constructor<;>omega
theorem in_ln {d:Dl.Def} (h:In PP fB d):DLn d:=by
 simp only [In] at h
 obtain ⟨h1,⟨h2,⟨h3,_⟩,h4,h4'⟩,h5,h6,h7,h8,⟨h9,_⟩,⟨h10,_⟩,_,h12,_⟩:=h
 exact ⟨rL (b:=56) (by kernel_rfl) (by decide) h3,rL (b:=24) (by kernel_rfl) (by decide) h4,fun e he=>rL (b:=48) (by kernel_rfl) (by decide) (h4' e he).1,rL (b:=48) (by kernel_rfl) (by decide) h9,rL (b:=8) (by kernel_rfl) (by decide) h10,rL (b:=16) (by kernel_rfl) (by decide) h12⟩
theorem HY {e:List ae} (h:s5 e=false):e.length≤120:=by
 simp only [s5,Bool.or_eq_false_iff,decide_eq_false_iff_not] at h
 omega
theorem KT {d:Dl.Def} (h:In PP fB d) (hs:Sm d):Fit d:=by
 simp only [In] at h
 obtain ⟨h1,⟨h2,⟨h3,h3'⟩,h4,h4'⟩,h5,h6,h7,h8,⟨h9,h9'⟩,⟨h10,h10'⟩,_,h12,h12'⟩:=h
 have ef:∀e:List ae,s5 e=false→(∀x∈e,(Lit.int .i64 x.1).wf=true∧(Lit.int .i64 x.2.1).wf=true∧(Lit.int .i64 x.2.2.1).wf=true∧(Lit.int .i64 x.2.2.2.1).wf=true∧x.2.2.2.2.size≤reachBytes)→xy e:=fun e hb hx=>
  ⟨HY hb,fun x hm=>⟨p6 (hx x hm).1,p6 (hx x hm).2.1,p6 (hx x hm).2.2.2.1⟩⟩
 exact ⟨hs.cols,hs.checks,hs.pick,hs.aggs,fun e he=>ef e (hs.each e he) (h4' e he).2,ef _ hs.whr h9',fun c hc=>⟨(hs.names c hc).1,(hs.names c hc).2,p6 (h3' c hc).2.1⟩,hs.n1,hs.n2,hs.n3,hs.n4,p6 h8.1,p6 h8.2,fun n hn=>p6 (h10' n hn),fun a ha=>p6 (h12' a ha).2⟩
end Go.Proofs.Ytleadolkcmagfaa
end
section
namespace Go.Proofs.Ytleadolkcmagfaa
open Go Lv Go.Proofs Go.RowKit Go.Shelf Dl
theorem nI {i:Int} (h1:0≤i) (h2:i<18446744073709551616):IntKind.u64.wrap i=i:=by
 simp [IntKind.wrap,IntKind.bits,IntKind.signed];omega
theorem JF {i:Int} (h1:0≤i) (h2:i<256):IntKind.u8.wrap i=i:=by
 simp [IntKind.wrap,IntKind.bits,IntKind.signed];omega
theorem DP:IntKind.i64.max=9223372036854775807:=by decide
def dT (n:Nat) (acc:List UInt8):Nat×List UInt8:=if h:n<10 then (n,acc) else dT (n/10) (UInt8.ofNat (48+n%10)::acc)
termination_by n
decreasing_by omega
theorem dT_eq (n:Nat) (acc:List UInt8):UInt8.ofNat (48+(dT n acc).1)::(dT n acc).2=Lib.decDigits n++acc∧(dT n acc).1<10∧(dT n acc).2.length≤acc.length+n:=by
 induction n using Nat.strongRecOn generalizing acc with
 |ind n ih=>
  rw [dT,Lib.decDigits]
  by_cases h:n<10
  ·simp [h]
  ·rw [dif_neg h,dif_neg h]
   obtain ⟨h1,h2,h3⟩:=ih (n/10) (by omega) (UInt8.ofNat (48+n%10)::acc)
   exact ⟨by rw [h1];simp,h2,by simp at h3 ⊢;omega⟩
theorem HZ (d:Nat) (hd:d<10):(⟨#[48,49,50,51,52,53,54,55,56,57]⟩:ByteArray).extract d (d+1)=bs [UInt8.ofNat (48+d)]:=by
 have:d=0∨d=1∨d=2∨d=3∨d=4∨d=5∨d=6∨d=7∨d=8∨d=9:=by omega
 rcases this with rfl|rfl|rfl|rfl|rfl|rfl|rfl|rfl|rfl|rfl<;>decide
theorem CF (n:Nat) (hn:n<18446744073709551616):(Lib.decDigits n).length≤30:=by
 have h:=Lib.decDigits_length n
 rw [h]
 have:=Lib.nDigits_le20 n hn
 omega
theorem CG (n : Nat) (hn : n < 18446744073709551616) : cH.F ((n : Int),()) = some (bs (Lib.decDigits n),()) := by
  rw [cH.eq]
  unfold cH.B
  simp only []
  have hsz:((⟨#[48,49,50,51,52,53,54,55,56,57]⟩:ByteArray).size:Int)=10:=by decide
  rw [hsz]
  have h10:(!decide ((10:Int)=0))=true:=by decide
  rw [fb (S:=Int×ByteArray×Unit) (m:=fun x=>x.1.toNat) (I:=fun x=>∃k:Nat,x.1=(k:Int)∧k*10^x.2.1.size≤18446744073709551615)
    (f:=fun x=> .inl (((dT x.1.toNat x.2.1.data.toList).1:Int),bs (dT x.1.toNat x.2.1.data.toList).2,())) ?_ _ ⟨n,rfl,by show n*10^0≤_;omega⟩]
  · simp only [Option.bind_some,Int.toNat_natCast]
    obtain ⟨h1,h2,h3⟩:=dT_eq n []
    generalize dT n []=r at h1 h2 h3
    have e8:IntKind.u64.wrap ((r.1:Int)+(1:Int))=((r.1+1:Nat):Int):=by rw [nI]<;>omega
    rw [e8]
    have d1:(decide (0≤(r.1:Int))&&(decide ((r.1:Int)≤((r.1+1:Nat):Int))&&decide (((r.1+1:Nat):Int)≤(10:Int))))=true:=by simp;omega
    rw [d1]
    simp only [cond_true,Int.toNat_natCast,HZ r.1 h2,cQ,jE,List.cons_append,List.nil_append,DP]
    have d2:(!decide ((([UInt8.ofNat (48+r.1)].length+r.2.length:Nat):Int)>9223372036854775807))=true:=by
      rw [Bool.not_eq_true',decide_eq_false_iff_not]
      have hl:r.2.length+1=(Lib.decDigits n).length:=by
        have:=congrArg List.length h1
        simpa using this
      have hk:=CF n hn
      simp only [List.length_cons,List.length_nil]
      omega
    rw [d2]
    simp only [cond_true]
    rw [h1,List.append_nil]
  · rintro ⟨x,acc,⟨⟩⟩ ⟨k,hk,hp⟩
    simp only at hk hp
    subst hk
    simp only [Int.toNat_natCast]
    rw [dT]
    by_cases h9:k<10
    · right
      have d1:decide ((k:Int)>(9:Int))=false:=by simp;omega
      simp only [d1,cond_false]
      rw [dif_pos h9]
    · left
      have d1:decide ((k:Int)>(9:Int))=true:=by simp;omega
      have hsz2:acc.size<20:=by
        rcases Nat.lt_or_ge acc.size 20 with h|h
        · exact h
        · exfalso
          have:10^20≤10^acc.size:=Nat.pow_le_pow_right (by decide) h
          have h3:10*10^20≤k*10^acc.size:=Nat.mul_le_mul (by omega) this
          have:(10:Nat)*10^20=1000000000000000000000:=by decide
          omega
      have hm:Int.tmod (k:Int) (10:Int)=((k%10:Nat):Int):=by
        show Int.tmod (k:Int) ((10:Nat):Int)=_
        rw [←Int.ofNat_tmod]
      have hdv:Int.tdiv (k:Int) (10:Int)=((k/10:Nat):Int):=by
        show Int.tdiv (k:Int) ((10:Nat):Int)=_
        rw [←Int.ofNat_tdiv]
      have hlt:k<18446744073709551616:=by
        have:k*1≤k*10^acc.size:=Nat.mul_le_mul_left k (Nat.one_le_pow _ _ (by decide))
        omega
      have e3:IntKind.u64.wrap (((k%10:Nat):Int)+(1:Int))=((k%10+1:Nat):Int):=by rw [nI]<;>omega
      have e6:IntKind.u64.wrap ((k/10:Nat):Int)=((k/10:Nat):Int):=by rw [nI]<;>omega
      have d2:(decide (0≤((k%10:Nat):Int))&&(decide (((k%10:Nat):Int)≤((k%10+1:Nat):Int))&&decide (((k%10+1:Nat):Int)≤(10:Int))))=true:=by simp only [Bool.and_eq_true,decide_eq_true_eq];omega
      simp only [d1,h10,hm,hdv,e3,e6,cond_true]
      rw [d2]
      simp only [cond_true,Int.toNat_natCast,HZ _ (Nat.mod_lt k (by decide)),cQ,DP]
      have d3:(!decide ((([UInt8.ofNat (48+k%10)].length+acc.size:Nat):Int)>9223372036854775807))=true:=by
        rw [Bool.not_eq_true',decide_eq_false_iff_not];simp only [List.length_cons,List.length_nil];omega
      rw [d3]
      simp only [cond_true]
      have ha:bs [UInt8.ofNat (48+k%10)]++acc=bs (UInt8.ofNat (48+k%10)::acc.data.toList):=by
        conv=>lhs;rw [←oi acc]
        rw [jE];rfl
      refine ⟨_,rfl,⟨k/10,rfl,?_⟩,by simp only [Int.toNat_natCast];omega,?_⟩
      · simp only
        rw [ha,cQ,List.length_cons]
        have hl:acc.data.toList.length=acc.size:=rfl
        rw [hl,Nat.pow_succ,←Nat.mul_assoc,Nat.mul_right_comm]
        have:k/10*10≤k:=Nat.div_mul_le_self k 10
        exact Nat.le_trans (Nat.mul_le_mul_right _ this) hp
      · simp only [Int.toNat_natCast]
        rw [dif_neg h9,ha]
theorem kg (n:Int) (h:I64 n):bC.F (n,())=some (bs (Lib.itoa n),()):=by
 rw [bC.eq]
 unfold bC.B
 simp only []
 unfold Lib.itoa
 by_cases hn:n<0
 ·have d:decide (n<(0:Int))=true:=by simp [hn]
  rw [d,if_pos hn]
  have e1:IntKind.i64.wrap (n+(1:Int))=n+1:=by rw [dl]<;>omega
  have e2:IntKind.i64.wrap (0-(n+1))=-(n+1):=by rw [dl]<;>omega
  have e3:IntKind.u64.wrap (-(n+1))=-(n+1):=by rw [nI]<;>omega
  have e4:IntKind.u64.wrap (-(n+1)+(1:Int))=(n.natAbs:Int):=by rw [nI]<;>omega
  have hd:=CG n.natAbs (by omega)
  have hk:=CF n.natAbs (by omega)
  simp only [cond_true,e1,e2,e3,e4,hd,Option.bind_some,jE,cQ,DP,List.cons_append,List.nil_append]
  have d2:(!decide ((([45]:List UInt8).length+(Lib.decDigits n.natAbs).length:Nat)>(9223372036854775807:Int)))=true:=by
   rw [Bool.not_eq_true',decide_eq_false_iff_not];simp only [List.length_cons,List.length_nil];omega
  rw [d2]
  rfl
 ·have d:decide (n<(0:Int))=false:=by simp;omega
  rw [d,if_neg hn]
  have e1:IntKind.u64.wrap n=(n.toNat:Int):=by rw [nI]<;>omega
  simp only [cond_false,e1,CG n.toNat (by omega),Option.bind_some]
end Go.Proofs.Ytleadolkcmagfaa
end
section
namespace Go.Proofs.Ytleadolkcmagfaa
open Go Lv Go.Proofs Go.RowKit Go.Shelf Dl
theorem z6 (n:Int):dK.F (n,())=some (2,n,e0,()):=by rw [dK.eq];rfl
theorem H1:dD.F ()=some (9223372036854775807,()):=by rw [dD.eq];rfl
theorem EQ:cK.F ()=some (-9223372036854775808,()):=by rw [cK.eq];rfl
theorem ER (a b:Int) (s:ByteArray) (c d:Int) (t:ByteArray):cO.F (a,b,s,c,d,t,())=some (decide (a=0)||decide (c=0),()):=by
 rw [cO.eq]
 unfold cO.B
 simp only [b_eq]
 cases decide (a=0)<;>rfl
theorem KU (a b:Int) (s:ByteArray) (c d:Int) (t:ByteArray):di.F (a,b,s,c,d,t,())=some (decide (a=2)&&decide (c=2),()):=by
 rw [di.eq]
 unfold di.B
 simp only [b_eq]
 cases decide (a=2)<;>rfl
abbrev Nm:=Option Int
def nmK:Nm→Int
 |none=>0
 |some _=>2
def nmN:Nm→Int
 |none=>0
 |some n=>n
theorem DQ (b:Int) (s:ByteArray) (d:Int) (t:ByteArray):cO.F (2,b,s,2,d,t,())=some (false,()):=by rw [ER];rfl
theorem DR (b:Int) (s:ByteArray) (c d:Int) (t:ByteArray):cO.F (0,b,s,c,d,t,())=some (true,()):=by rw [ER];rfl
theorem H2 (b:Int) (s:ByteArray) (d:Int) (t:ByteArray):di.F (2,b,s,2,d,t,())=some (true,()):=by rw [KU];rfl
noncomputable def upd (f:Int→Int):Nm→Nm
 |none=>none
 |some n=>if I64 (f n) then some (f n) else none
noncomputable def xD (f:Int→Int):Nm→Bool
 |none=>true
 |some n=>decide (I64 (f n))
theorem DS {f:Int→Int} {v:Nm}:∀n,upd f v=some n→I64 n:=by
 intro n h
 cases v with
 |none=>cases h
 |some m=>
  simp only [upd] at h
  split at h
  ·rename_i hi;cases h;exact hi
  ·cases h
theorem rM {f:Int→Int} {n:Int} (h:¬I64 (f n)):upd f (some n)=none∧xD f (some n)=false:=by
 simp only [upd,xD,if_neg h,decide_eq_false h];exact ⟨trivial,trivial⟩
theorem jK {f:Int→Int} {n:Int} (h:I64 (f n)):upd f (some n)=some (f n)∧xD f (some n)=true:=by
 simp only [upd,xD,if_pos h,decide_eq_true h];exact ⟨trivial,trivial⟩
theorem JG (v : Nm) (hv : ∀ n,v = some n → I64 n) : dQ.F (nmK v,nmN v,e0,2,10,e0,()) = some (nmK (upd (· * 10) v),nmN (upd (· * 10) v),e0,xD (· * 10) v,()) := by
  cases v with
  |none=>
    rw [dQ.eq]
    unfold dQ.B
    simp only [nmK,DR,Option.bind_some]
    rfl
  |some n=>
    have hn:=hv n rfl
    rw [dQ.eq]
    unfold dQ.B
    simp only [nmK,nmN,DQ,H2,Option.bind_some]
    have q3:((10:Int)==(0:Int))=false:=by decide
    have q4:((10:Int)==(-1:Int))=false:=by decide
    have q5:(!decide ((10:Int)=0))=true:=by decide
    have q6:((10:Int)==(-9223372036854775808:Int))=false:=by decide
    simp only [q3,q4,q5,q6,Bool.not_true,cond_false,cond_true,EQ,Option.bind_some,z6]
    by_cases h0:n=0
    · subst h0
      obtain ⟨u1,u2⟩:=jK (f:=(· *10)) (n:=0) (by decide)
      rw [u1,u2];rfl
    have h0':(n==(0:Int))=false:=by simp [h0]
    simp only [h0',cond_false,Option.bind_some]
    have hb:∀(b:Bool) {R:Type} (K:((Bool×Unit)⊕R)→Option R),Option.bind ((bif b then some (.inl (false,())) else some (.inl (false,()))):Option ((Bool×Unit)⊕R)) K=K (.inl (false,())):=by
      intro b R K;cases b<;>rfl
    rw [hb]
    simp only [cond_false,AV]
    generalize he:IntKind.i64.wrap (n*10)=e
    have key:=Int.mul_tdiv_add_tmod e 10
    have hr:=Int.tmod_lt_of_pos e (show (0:Int)<10 by decide)
    have hr2:-10<Int.tmod e 10:=by
      have:=Int.lt_tmod_of_pos e (show (0:Int)<10 by decide)
      omega
    have he2:I64 e:=by
      rw [←he,IntKind.wrap_i64]
      constructor<;>omega
    have hq:IntKind.i64.wrap (Int.tdiv e 10)=Int.tdiv e 10:=by
      rw [dl]<;>omega
    rw [hq]
    by_cases hi:I64 (n*10)
    · have hen:e=n*10:=by rw [←he,dl]<;>omega
      have hd:Int.tdiv e 10=n:=by rw [hen];exact Int.mul_tdiv_cancel n (by decide)
      have hm:Int.tmod e 10=0:=by omega
      obtain ⟨u1,u2⟩:=jK (f:=(· *10)) (n:=n) hi
      rw [u1,u2]
      simp only [hd,hm,decide_true,Bool.not_true,cond_false]
      rw [hen]
    · obtain ⟨u1,u2⟩:=rM (f:=(· *10)) (n:=n) hi
      rw [u1,u2]
      simp only []
      by_cases hd:Int.tdiv e 10=n
      · have hm:¬Int.tmod e 10=0:=by
          intro h
          rw [hd,h] at key
          exact hi (by have : n * 10 = e := by omega
                       rw [this];exact he2)
        simp only [hd,hm,decide_true,decide_false,Bool.not_true,Bool.not_false,cond_false,cond_true]
      · simp only [hd,decide_false,Bool.not_false,cond_true]
theorem add_d (v : Nm) (hv : ∀ n,v = some n → I64 n) (d : Int) (hd : 0 ≤ d ∧ d ≤ 9) : dR.F (nmK v,nmN v,e0,2,d,e0,()) = some (nmK (upd (· + d) v),nmN (upd (· + d) v),e0,xD (· + d) v,()) := by
  cases v with
  |none=>
    rw [dR.eq]
    unfold dR.B
    simp only [nmK,DR,Option.bind_some]
    rfl
  |some n=>
    have hn:=hv n rfl
    rw [dR.eq]
    unfold dR.B
    simp only [nmK,nmN,DQ,H2,Option.bind_some]
    have q4:decide (d<(0:Int))=false:=by simp;omega
    have e4:IntKind.i64.wrap (9223372036854775807-d)=9223372036854775807-d:=by rw [dl]<;>omega
    simp only [q4,Bool.not_true,cond_false,H1,Option.bind_some,z6,e4]
    by_cases h0:d>0
    · rw [decide_eq_true h0]
      by_cases hi:I64 (n+d)
      · have:decide (n>9223372036854775807-d)=false:=by simp;omega
        have hw:IntKind.i64.wrap (n+d)=n+d:=by rw [dl]<;>omega
        obtain ⟨u1,u2⟩:=jK (f:=(· +d)) (n:=n) hi
        rw [u1,u2]
        simp only [this,cond_true,cond_false,Option.bind_some,hw]
      · have:decide (n>9223372036854775807-d)=true:=by
          rw [decide_eq_true_eq]
          rcases Int.lt_or_le (9223372036854775807-d) n with h|h
          · exact h
          · exact absurd ⟨by omega,by omega⟩ hi
        obtain ⟨u1,u2⟩:=rM (f:=(· +d)) (n:=n) hi
        rw [u1,u2]
        simp only [this,cond_true,Option.bind_some]
    · have hd0:d=0:=by omega
      subst hd0
      have hi:I64 (n+0):=by rw [Int.add_zero];exact hn
      have hw:IntKind.i64.wrap (n+0)=n+0:=by rw [dl]<;>omega
      obtain ⟨u1,u2⟩:=jK (f:=(· +(0:Int))) (n:=n) hi
      rw [u1,u2]
      simp only [show decide ((0:Int)>0)=false by decide,cond_false,Option.bind_some,hw]
theorem cdF {P:Prop} [i:Decidable P] {α:Type} {a b:α} (h:¬P):(bif decide P then a else b)=b:=by
 rw [decide_eq_false h];rfl
theorem cdT {P:Prop} [i:Decidable P] {α:Type} {a b:α} (h:P):(bif decide P then a else b)=a:=by
 rw [decide_eq_true h];rfl
theorem sub_d (v : Nm) (hv : ∀ n,v = some n → I64 n) (d : Int) (hd : 0 ≤ d ∧ d ≤ 9) : dS.F (nmK v,nmN v,e0,2,d,e0,()) = some (nmK (upd (· - d) v),nmN (upd (· - d) v),e0,xD (· - d) v,()) := by
  cases v with
  |none=>
    rw [dS.eq]
    unfold dS.B
    simp only [nmK,DR,Option.bind_some]
    rfl
  |some n=>
    have hn:=hv n rfl
    rw [dS.eq]
    unfold dS.B
    simp only [nmK,nmN,DQ,H2,Option.bind_some]
    have q4:decide (d<(0:Int))=false:=by simp;omega
    have e4:IntKind.i64.wrap (-9223372036854775808+d)=-9223372036854775808+d:=by rw [dl]<;>omega
    simp only [q4,Bool.not_true,cond_false,EQ,H1,Option.bind_some,z6]
    by_cases h0:d>0
    · rw [decide_eq_true h0]
      by_cases hi:I64 (n-d)
      · have hw:IntKind.i64.wrap (n-d)=n-d:=by rw [dl]<;>omega
        have:¬(n<IntKind.i64.wrap (-9223372036854775808+d)):=by rw [e4];omega
        obtain ⟨u1,u2⟩:=jK (f:=(· - d)) (n:=n) hi
        rw [u1,u2]
        simp only [cond_true,Option.bind_some,hw]
        exact cdF this
      · have:n<IntKind.i64.wrap (-9223372036854775808+d):=by
          rw [e4]
          rcases Int.lt_or_le n (-9223372036854775808+d) with h|h
          · exact h
          · exact absurd ⟨by omega,by omega⟩ hi
        obtain ⟨u1,u2⟩:=rM (f:=(· - d)) (n:=n) hi
        rw [u1,u2]
        simp only [cond_true,Option.bind_some]
        exact cdT this
    · have hd0:d=0:=by omega
      subst hd0
      have hi:I64 (n-0):=by rw [Int.sub_zero];exact hn
      have hw:IntKind.i64.wrap (n-0)=n-0:=by rw [dl]<;>omega
      obtain ⟨u1,u2⟩:=jK (f:=(· - (0:Int))) (n:=n) hi
      rw [u1,u2]
      simp only [show decide ((0:Int)>0)=false by decide,cond_false,Option.bind_some,hw]
end Go.Proofs.Ytleadolkcmagfaa
end
section
namespace Go.Proofs.Ytleadolkcmagfaa
open Go Lv Go.Proofs Go.RowKit Go.Shelf Dl
def dvl (acc:Nat):List UInt8→Nat
 | []=>acc
 |c::r=>dvl (acc*10+(c.toNat-48)) r
theorem KV:∀(l:List UInt8) (acc:Nat),acc≤dvl acc l:=by
 intro l
 induction l with
 |nil=>intro acc;exact Nat.le_refl _
 |cons c r ih=>intro acc;exact Nat.le_trans (by omega) (ih _)
theorem qs (c:UInt8):digit c=true↔48≤c.toNat∧c.toNat≤57:=by simp [digit]
theorem F5:∀(l:List UInt8),l.all digit=true→∀acc,acc<18446744073709551616→(dvl acc l<18446744073709551616→Lib.parseUint10 acc l=.ok (dvl acc l))∧(18446744073709551616≤dvl acc l→Lib.parseUint10 acc l=.range):=by
 intro l
 induction l with
 |nil=>intro _ acc h;exact ⟨fun _=>rfl,fun k=>absurd h (Nat.not_lt.2 k)⟩
 |cons c r ih=>
  intro hd acc ha
  simp only [List.all_cons,Bool.and_eq_true] at hd
  have hc:=(qs c).1 hd.1
  have e:dvl acc (c::r)=dvl (acc*10+(c.toNat-48)) r:=rfl
  rw [e]
  have hle:=KV r (acc*10+(c.toNat-48))
  unfold Lib.parseUint10
  rw [if_pos hc]
  split
  ·exact ⟨fun k=>by omega,fun _=>rfl⟩
  ·split
   ·exact ⟨fun k=>by omega,fun _=>rfl⟩
   ·exact ih hd.2 _ (by omega)
def sgV (neg:Bool) (n:Nat):Int:=bif neg then -(n:Int) else (n:Int)
theorem H3 (neg : Bool) (ds : List UInt8) (hd : ds.all digit = true) (hne : ds ≠ []) :
    pY (bif neg then 45::ds else ds)=if I64 (sgV neg (dvl 0 ds))∧Lib.itoa (sgV neg (dvl 0 ds))=(bif neg then 45::ds else ds) then some (sgV neg (dvl 0 ds)) else none:=by
  have hp:(dvl 0 ds<18446744073709551616→Lib.parseMag ds=.ok (dvl 0 ds))∧(18446744073709551616≤dvl 0 ds→Lib.parseMag ds=.range):=by
    unfold Lib.parseMag
    rw [if_neg hne]
    exact F5 ds hd 0 (by decide)
  have ha : ∀ z,z = sgV neg (dvl 0 ds) → (I64 z → Lib.atoiAll (bif neg then 45 :: ds else ds) = .ok z) ∧ (¬ I64 z → Lib.atoiAll (bif neg then 45 :: ds else ds) = .range) := by
    intro z hz
    cases neg with
    |true=>
      have hz':z=-((dvl 0 ds:Nat):Int):=hz
      clear hz
      show (I64 z→Lib.atoiAll (45::ds)=.ok z)∧(¬I64 z→Lib.atoiAll (45::ds)=.range)
      unfold Lib.atoiAll
      have e45:((45:UInt8).toNat=43∨(45:UInt8).toNat=45):=by decide
      simp only [if_pos e45]
      have t45:(45:UInt8).toNat=45:=rfl
      rcases Nat.lt_or_ge (dvl 0 ds) 18446744073709551616 with h|h
      · rw [hp.1 h]
        simp only [t45,true_and,not_true,false_and,if_false,if_true]
        by_cases h2:9223372036854775808<dvl 0 ds
        · rw [if_pos h2]
          exact ⟨fun k=>by obtain ⟨k1,k2⟩:=k;omega,fun _=>rfl⟩
        · rw [if_neg h2]
          exact ⟨fun _=>by rw [hz'],fun k=>absurd ⟨by omega,by omega⟩ k⟩
      · rw [hp.2 h]
        exact ⟨fun k=>by obtain ⟨k1,k2⟩:=k;omega,fun _=>rfl⟩
    | false =>
      have hz':z=((dvl 0 ds:Nat):Int):=hz
      clear hz
      cases ds with
      |nil=>exact absurd rfl hne
      |cons c r=>
        simp only [List.all_cons,Bool.and_eq_true] at hd
        have hc:=(qs c).1 hd.1
        show (I64 z→Lib.atoiAll (c::r)=.ok z)∧(¬I64 z→Lib.atoiAll (c::r)=.range)
        unfold Lib.atoiAll
        have n1:¬(c.toNat=43∨c.toNat=45):=by omega
        have n2:¬c.toNat=45:=by omega
        simp only [if_neg n1]
        rcases Nat.lt_or_ge (dvl 0 (c::r)) 18446744073709551616 with h|h
        · rw [hp.1 h]
          simp only [n2,not_false_eq_true,true_and,false_and,if_false]
          by_cases h2:9223372036854775808≤dvl 0 (c::r)
          · rw [if_pos h2]
            exact ⟨fun k=>by obtain ⟨k1,k2⟩:=k;omega,fun _=>rfl⟩
          · rw [if_neg h2]
            exact ⟨fun _=>by rw [hz'],fun k=>absurd ⟨by omega,by omega⟩ k⟩
        · rw [hp.2 h]
          exact ⟨fun k=>by obtain ⟨k1,k2⟩:=k;omega,fun _=>rfl⟩
  have hb:=ha _ rfl
  clear ha
  generalize sgV neg (dvl 0 ds)=z at hb ⊢
  generalize (bif neg then 45::ds else ds)=w at hb ⊢
  unfold pY
  by_cases h:I64 z
  · rw [hb.1 h]
    by_cases hi:Lib.itoa z=w
    · rw [if_pos ⟨h,hi⟩];exact if_pos hi
    · rw [if_neg (fun k=>hi k.2)];exact if_neg hi
  · rw [hb.2 h,if_neg (fun k=>h k.1)]
noncomputable def nJ (neg:Bool) (c:UInt8) (st:Bool×Nm):Bool×Nm:=
  if c = 45 then st else
    (st.1 && (xD (· * 10) st.2 && (bif neg then xD (· - ((c.toNat : Int) - 48)) (upd (· * 10) st.2) else xD (· + ((c.toNat : Int) - 48)) (upd (· * 10) st.2))),
     bif neg then upd (· - ((c.toNat:Int)-48)) (upd (· *10) st.2) else upd (· +((c.toNat:Int)-48)) (upd (· *10) st.2))
def NI (neg:Bool) (st:Bool×Nm) (a:Nat):Prop:=(∀n,st.2=some n→I64 n)∧((st.1=true∧st.2=some (sgV neg a)∧I64 (sgV neg a))∨(st.1=false∧¬I64 (sgV neg a)))
theorem CH (neg:Bool) (c:UInt8) (st:Bool×Nm) (h:∀n,st.2=some n→I64 n):∀n,(nJ neg c st).2=some n→I64 n:=by
 unfold nJ
 split
 ·exact h
 ·cases neg<;>exact DS
theorem H4 (neg : Bool) (c : UInt8) (hc : digit c = true) (st : Bool × Nm) (a : Nat) (h : NI neg st a) : NI neg (nJ neg c st) (a * 10 + (c.toNat - 48)) := by
  obtain ⟨h1,h2⟩:=h
  refine ⟨CH neg c st h1,?_⟩
  have hd:=(qs c).1 hc
  have h45:c≠45:=fun e=>by subst e;revert hc;decide
  unfold nJ
  rw [if_neg h45]
  rcases h2 with ⟨o,v,i⟩|⟨o,i⟩
  · simp only [o,v,Bool.true_and]
    cases neg with
    |false=>
      simp only [sgV,cond_false] at i ⊢
      by_cases hm:I64 ((a:Int)*10)
      · obtain ⟨u1,u2⟩:=jK (f:=(· *10)) (n:=(a:Int)) hm
        rw [u1,u2]
        by_cases hp:I64 ((a:Int)*10+((c.toNat:Int)-48))
        · obtain ⟨w1,w2⟩:=jK (f:=(· +((c.toNat:Int)-48))) (n:=(a:Int)*10) hp
          rw [w1,w2]
          left
          have:(a:Int)*10+((c.toNat:Int)-48)=((a*10+(c.toNat-48):Nat):Int):=by omega
          rw [this] at hp ⊢
          exact ⟨rfl,rfl,hp⟩
        · obtain ⟨w1,w2⟩:=rM (f:=(· +((c.toNat:Int)-48))) (n:=(a:Int)*10) hp
          rw [w1,w2]
          right
          refine ⟨rfl,fun k=>hp ?_⟩
          have:(a:Int)*10+((c.toNat:Int)-48)=((a*10+(c.toNat-48):Nat):Int):=by omega
          rw [this];exact k
      · obtain ⟨u1,u2⟩:=rM (f:=(· *10)) (n:=(a:Int)) hm
        rw [u1,u2]
        right
        refine ⟨rfl,fun k=>hm ?_⟩
        obtain ⟨k1,k2⟩:=k
        constructor<;>omega
    |true=>
      simp only [sgV,cond_true] at i ⊢
      by_cases hm:I64 (-(a:Int)*10)
      · obtain ⟨u1,u2⟩:=jK (f:=(· *10)) (n:=-(a:Int)) hm
        rw [u1,u2]
        by_cases hp:I64 (-(a:Int)*10-((c.toNat:Int)-48))
        · obtain ⟨w1,w2⟩:=jK (f:=(· - ((c.toNat:Int)-48))) (n:=-(a:Int)*10) hp
          rw [w1,w2]
          left
          have:-(a:Int)*10-((c.toNat:Int)-48)=-((a*10+(c.toNat-48):Nat):Int):=by omega
          rw [this] at hp ⊢
          exact ⟨rfl,rfl,hp⟩
        · obtain ⟨w1,w2⟩:=rM (f:=(· - ((c.toNat:Int)-48))) (n:=-(a:Int)*10) hp
          rw [w1,w2]
          right
          refine ⟨rfl,fun k=>hp ?_⟩
          have:-(a:Int)*10-((c.toNat:Int)-48)=-((a*10+(c.toNat-48):Nat):Int):=by omega
          rw [this];exact k
      · obtain ⟨u1,u2⟩:=rM (f:=(· *10)) (n:=-(a:Int)) hm
        rw [u1,u2]
        right
        refine ⟨rfl,fun k=>hm ?_⟩
        obtain ⟨k1,k2⟩:=k
        constructor<;>omega
  · right
    simp only [o,Bool.false_and,true_and]
    intro k
    apply i
    obtain ⟨k1,k2⟩:=k
    cases neg
    · simp only [sgV,cond_false] at k1 k2 ⊢
      constructor<;>omega
    · simp only [sgV,cond_true] at k1 k2 ⊢
      constructor<;>omega
theorem H5 (neg:Bool):∀(l:List UInt8),l.all digit=true→∀st a,NI neg st a→NI neg (l.foldl (fun st c=>nJ neg c st) st) (dvl a l):=by
 intro l
 induction l with
 |nil=>intro _ st a h;exact h
 |cons c r ih=>
  intro hd st a h
  simp only [List.all_cons,Bool.and_eq_true] at hd
  exact ih hd.2 _ _ (H4 neg c hd.1 st a h)
theorem JH {St R:Type} (f:UInt8→St→St) (fin:St→R):∀(l:List UInt8) (st:St),iP (fun c st=>Sum.inl (f c st)) fin l st=fin (l.foldl (fun st c=>f c st) st):=by
 intro l
 induction l with
 |nil=>intro st;rfl
 |cons c r ih=>intro st;exact ih _
theorem ES {l:List UInt8} {i:Nat} (h:i<l.length):eK (bs l) i=((l[i]).toNat:Int):=by
 have:lst (bs l) i=l[i]::l.drop (i+1):=List.drop_eq_getElem_cons h
 exact (eu this).2.2
theorem AZ (c : UInt8) (r : List UInt8) (hr : r.all digit = true) (hc : digit c = true ∨ c = 45) (hl : (c :: r).length ≤ 100000000) :
    cC.F (bs (c::r),())=
      (let st:=(c::r).foldl (fun st d=>nJ (decide (c=45)) d st) (true,some 0)
      bif st.1 then Option.bind (bC.F (nmN st.2,())) fun y13=>some (nmN st.2,(y13.1.toList==(bs (c::r)).toList),()) else some (nmN st.2,false,())):=by
  rw [cC.eq]
  unfold cC.B
  simp only []
  have hst:lst (bs (c::r)) 0=c::r:=rfl
  have e3:eK (bs (c::r)) 0=(c.toNat:Int):=(eu hst).2.2
  have d2:(decide (0≤(0:Int))&&decide ((0:Int)<((bs (c::r)).size:Int)))=true:=by rw [cQ];simp only [Bool.and_eq_true,decide_eq_true_eq,List.length_cons];omega
  rw [d2,e3]
  simp only [cond_true]
  have h45:((c.toNat:Int)==(45:Int))=decide (c=45):=kz c 45 (by decide)
  rw [h45,cQ]
  generalize decide (c=45)=neg
  have hw:∀x∈c::r,digit x=true∨x=45:=by
    intro x hx
    rcases List.mem_cons.1 hx with h|h
    · subst h;exact hc
    · exact .inl (List.all_eq_true.1 hr x h)
  generalize hW:c::r=w at hw hl
  refine (sQ (mk:=fun (i:Int) (st:Bool×Nm)=>(st.1,i,nmK st.2,nmN st.2,e0,())) (l:=w) (I:=fun _ st=>∀n,st.2=some n→I64 n)
    (step:=fun c st=> .inl (nJ neg c st)) (fin:=fun st=> .inl (st.1,nmK st.2,nmN st.2,e0,())) ?_ ?_ (true,some 0) (by intro n h;cases h;decide)).trans ?_
  · intro i hi st hI
    refine ⟨?_,fun st' hs=>by cases hs;exact CH neg _ st hI⟩
    have d1:decide ((i:Int)<((w.length:Nat):Int))=true:=by simp;omega
    have d0:decide (0≤(i:Int))=true:=by simp
    have hb:=ES hi
    have hx:=hw w[i] (List.getElem_mem hi)
    generalize w[i]=x at hb hx
    have x45:((x.toNat:Int)==(45:Int))=decide (x=45):=kz x 45 (by decide)
    simp only [d1,d0,Bool.and_self,cond_true,Int.toNat_natCast,hb,x45,cw hi (by omega)]
    unfold nJ
    by_cases h5:x=45
    · simp only [h5,decide_true,cond_true,Option.bind_some,if_true]
    · have hdx:48≤x.toNat∧x.toNat≤57:=by
        rcases hx with h|h
        · exact (qs x).1 h
        · exact absurd h h5
      have e4:IntKind.u8.wrap ((x.toNat:Int)-48)=(x.toNat:Int)-48:=by rw [JF]<;>omega
      have e5:IntKind.i64.wrap ((x.toNat:Int)-48)=(x.toNat:Int)-48:=by rw [dl]<;>omega
      have m1:=JG st.2 hI
      have a1:=add_d (upd (· *10) st.2) DS ((x.toNat:Int)-48) (by omega)
      have s1:=sub_d (upd (· *10) st.2) DS ((x.toNat:Int)-48) (by omega)
      simp only [h5,decide_false,cond_false,e4,e5,z6,Option.bind_some,m1,a1,s1,if_false]
      cases neg<;>cases st.1<;>cases xD (· *10) st.2<;>rfl
  · intro st hI
    have d1:decide (((w.length:Nat):Int)<((w.length:Nat):Int))=false:=by simp
    simp only [d1,cond_false]
  · rw [JH]
theorem F6 (c : UInt8) (r : List UInt8) (hr : r.all digit = true) (hc : digit c = true ∨ (c = 45 ∧ r ≠ [])) (hl : (c :: r).length ≤ 100000000) :
    match pY (c::r) with
    |some n=>cC.F (bs (c::r),())=some (n,true,())
    |none=>∃n,cC.F (bs (c::r),())=some (n,false,()):=by
  rw [AZ c r hr (hc.imp id And.left) hl]
  have go : ∀ (neg : Bool) (ds : List UInt8),ds.all digit = true → ds ≠ [] → (∀ st : Bool × Nm,(c :: r).foldl (fun st d => nJ neg d st) st = ds.foldl (fun st d => nJ neg d st) st) → c :: r = (bif neg then 45 :: ds else ds) →
      match pY (c::r) with
      |some n=>(let st:=(c::r).foldl (fun st d=>nJ neg d st) (true,some 0)
          bif st.1 then Option.bind (bC.F (nmN st.2,())) fun y13=>some (nmN st.2,(y13.1.toList==(bs (c::r)).toList),()) else some (nmN st.2,false,()))=some (n,true,())
      |none=>∃n,(let st:=(c::r).foldl (fun st d=>nJ neg d st) (true,some 0)
          bif st.1 then Option.bind (bC.F (nmN st.2,())) fun y13=>some (nmN st.2,(y13.1.toList==(bs (c::r)).toList),()) else some (nmN st.2,false,()))=some (n,false,()):=by
    intro neg ds hds hne hf hw
    have hn:=H3 neg ds hds hne
    rw [←hw] at hn
    rw [hn,hf]
    have inv:=H5 neg ds hds (true,some 0) 0 ⟨by intro n h;cases h;decide,.inl ⟨rfl,by cases neg<;>rfl,by cases neg<;>decide⟩⟩
    generalize ds.foldl (fun st d=>nJ neg d st) (true,some 0)=st at inv
    obtain ⟨_,h|h⟩:=inv
    · obtain ⟨h1,h2,h3⟩:=h
      simp only [h1,cond_true,h2,nmN,kg _ h3,Option.bind_some,rG]
      by_cases hi:Lib.itoa (sgV neg (dvl 0 ds))=c::r
      · rw [if_pos ⟨h3,hi⟩]
        simp only [hi,decide_true]
      · rw [if_neg (fun k=>hi k.2)]
        simp only [hi,decide_false]
        exact ⟨_,rfl⟩
    · obtain ⟨h1,h2⟩:=h
      rw [if_neg (fun k=>h2 k.1)]
      simp only [h1,cond_false]
      exact ⟨_,rfl⟩
  rcases hc with hc|⟨hc,hne⟩
  · have h45:c≠45:=fun e=>by subst e;revert hc;decide
    simp only [h45,decide_false]
    exact go false (c::r) (by simp only [List.all_cons,hc,hr,Bool.and_self]) (by simp) (fun _=>rfl) rfl
  · subst hc
    simp only [decide_true]
    exact go true r hr hne (fun st=>by simp only [List.foldl_cons];rfl) rfl
end Go.Proofs.Ytleadolkcmagfaa
end
section
namespace Go.Proofs.Ytleadolkcmagfaa
open Go Lv Go.Proofs Go.RowKit Go.Shelf Dl
theorem DT {R:Type} (c:UInt8) (tt:R) (ff:Unit→R):∀(l:List UInt8),iP (fun (d:UInt8) (_:Unit)=>bif decide (d=c) then Sum.inr tt else Sum.inl ()) ff l ()=if c∈l then tt else ff ():=by
 intro l
 induction l with
 |nil=>simp [iP]
 |cons d l ih=>
  by_cases h:d=c
  ·subst h;simp [iP]
  ·have h':¬c=d:=fun e=>h e.symm
   simp only [iP,h,decide_false,cond_false,ih,List.mem_cons,h',false_or]
theorem JI (c : UInt8) : dC.F ((c.toNat : Int),()) = some (decide (c ∈ fz),()) := by
  rw [dC.eq]
  unfold dC.B
  have hz:((⟨#[40,41,91,93,44,61,60,43,45,42,63]⟩:ByteArray).size:Int)=((fz.length:Nat):Int):=rfl
  have hb:∀i:Nat,eK (⟨#[40,41,91,93,44,61,60,43,45,42,63]⟩:ByteArray) i=eK (bs fz) i:=fun _=>rfl
  simp only [hz,hb]
  refine (AI (mk:=fun (i:Int) (_:Unit)=>(i,())) (l:=fz) (I:=fun _ _=>True)
    (step:=fun d _=>bif decide (d=c) then Sum.inr (true,()) else Sum.inl ()) (fin:=fun _=>(false,())) ?_ ?_ () trivial).trans ?_
  · intro i hi st _
    refine ⟨?_,fun _ _=>trivial⟩
    have d1:decide ((i:Int)<((fz.length:Nat):Int))=true:=by simp only [decide_eq_true_eq];omega
    have d0:decide (0≤(i:Int))=true:=by simp
    have hl:fz.length=11:=rfl
    have hx:((fz[i].toNat:Int)==(c.toNat:Int))=decide (fz[i]=c):=by
      by_cases h:fz[i]=c
      · rw [h];simp
      · have:¬(fz[i].toNat:Int)=(c.toNat:Int):=fun e=>h (UInt8.toNat_inj.1 (by omega))
        rw [beq_eq_false_iff_ne.2 this];simp [h]
    simp only [d1,d0,Bool.and_self,cond_true,Int.toNat_natCast,ES hi,hx,cw hi (by omega)]
    cases decide (fz[i]=c)<;>rfl
  · intro st _
    have d1:decide (((fz.length:Nat):Int)<((fz.length:Nat):Int))=false:=by simp
    simp only [d1,cond_false]
  · rw [DT]
    by_cases h:c∈fz
    · rw [if_pos h,decide_eq_true h]
    · rw [if_neg h,decide_eq_false h]
def txR (s:ByteArray) (acc:ByteArray):Option (List UInt8×List UInt8)→ByteArray×Int×Bool×Unit
 |none=>(e0,0,false,())
 |some x=>(acc++bs x.1,((s.size-x.2.length:Nat):Int),decide (acc.size+x.1.length≤1000),())
theorem kL (a:ByteArray) (b c:List UInt8):a++bs b++bs c=a++bs (b++c):=by
 apply Go.WideShapes.bytes_inj
 simp
theorem vd (a:ByteArray):a++bs []=a:=by
 apply Go.WideShapes.bytes_inj
 simp
theorem JJ      (s : ByteArray) (hs : s.size ≤ 100000000) (i : Nat) {r : List UInt8} (hc : lst s i = 39 :: r) : dE.F (s,(i : Int),()) = some (txR s e0 (gG r)) := by
  obtain ⟨hi,h1,_⟩:=eu hc
  rw [dE.eq]
  unfold dE.B
  simp only [cw hi (show s.size<9223372036854775808 by omega)]
  refine (fb (S:=ByteArray×Int×Unit) (m:=fun x=>s.size-x.2.1.toNat) (I:=fun x=>∃k:Nat,x.2.1=(k:Int)∧k≤s.size∧x.1.size≤k)
    (f:=fun x=>txR s x.1 (gG (lst s x.2.1.toNat))) ?_ _ ⟨i+1,rfl,by omega,by show 0≤_;omega⟩).trans ?_
  · rintro ⟨acc,x,⟨⟩⟩ ⟨k,hk,hle,hsz⟩
    simp only at hk hsz
    subst hk
    simp only [Int.toNat_natCast]
    by_cases hlt:k<s.size
    · obtain ⟨c,q,e⟩:=mK hlt
      obtain ⟨_,e1,e2⟩:=eu e
      have d1:decide ((k:Int)<(s.size:Int))=true:=by simp;omega
      have d0:decide (0≤(k:Int))=true:=by simp
      have w1:IntKind.i64.wrap ((k:Int)+(1:Int))=((k+1:Nat):Int):=cw hlt (by omega)
      have c39:((c.toNat:Int) !=(39:Int))= !decide (c=39):=by
        have h:((c.toNat:Int)==(39:Int))=decide (c=39):=kz c 39 (by decide)
        show (!((c.toNat:Int)==(39:Int)))=_
        rw [h]
      simp only [d1,d0,Bool.and_self,cond_true,e2,c39,w1,Bool.true_and]
      by_cases h39:c=39
      · subst h39
        simp only [decide_true,Bool.not_true,cond_false]
        by_cases hlt2:k+1<s.size
        · obtain ⟨d,q',e'⟩:=mK hlt2
          obtain ⟨_,e1',e2'⟩:=eu e'
          rw [e1] at e'
          subst e'
          have d2:decide (((k+1:Nat):Int)<(s.size:Int))=true:=by simp only [decide_eq_true_eq];omega
          have d3:decide (0≤((k+1:Nat):Int))=true:=by simp only [decide_eq_true_eq];omega
          have d39:((d.toNat:Int)==(39:Int))=decide (d=39):=kz d 39 (by decide)
          simp only [d2,d3,Bool.and_self,cond_true,Int.toNat_natCast,e2',d39]
          by_cases h2:d=39
          · subst h2
            left
            have w2:IntKind.i64.wrap ((k:Int)+(2:Int))=((k+2:Nat):Int):=by rw [dl]<;>omega
            have e3:(!decide ((((acc.size+(⟨#[39]⟩:ByteArray).size:Nat)):Int)>IntKind.i64.max))=true:=by
              have:(⟨#[39]⟩:ByteArray).size=1:=rfl
              rw [DP,this,Bool.not_eq_true',decide_eq_false_iff_not]
              omega
            simp only [decide_true,cond_true,e3,w2]
            refine ⟨_,rfl,⟨k+2,rfl,by omega,?_⟩,by simp only [Int.toNat_natCast];omega,?_⟩
            · show (acc++bs [39]).size≤_
              rw [ByteArray.size_append]
              have:(bs [39]).size=1:=rfl
              clear hc h1
              omega
            · simp only [Int.toNat_natCast]
              rw [e1',e,gq,if_pos rfl]
              simp only [if_true]
              rw [show (⟨#[39]⟩:ByteArray)=bs [39] from rfl]
              cases gG q' with
              |none=>rfl
              |some x=>
                simp only [Option.map_some,txR,kL,ByteArray.size_append,cQ,List.length_cons,List.length_nil,List.cons_append,List.nil_append]
                congr 3
                have:acc.size+(0+1)+x.1.length=acc.size+(x.1.length+1):=by omega
                rw [this]
          · right
            rw [e,gq,if_pos rfl]
            simp only [h2,decide_false,cond_false,if_false,txR,vd,List.length_nil,Nat.add_zero]
            have hl:=eO s (k+1)
            rw [e1] at hl
            have:s.size-(d::q').length=k+1:=by rw [hl];omega
            rw [this]
            have:decide ((acc.size:Int)≤(1000:Int))=decide (acc.size≤1000):=by simp only [decide_eq_decide];omega
            rw [this]
        · right
          have d2:decide (((k+1:Nat):Int)<(s.size:Int))=false:=by simp only [decide_eq_false_iff_not];omega
          have hl:=eO s (k+1)
          rw [e1] at hl
          have hq:q=[]:=List.length_eq_zero_iff.1 (by omega)
          subst hq
          rw [e,gq,if_pos rfl]
          simp only [d2,cond_false,txR,vd,List.length_nil,Nat.add_zero]
          have:s.size-0=k+1:=by omega
          rw [this]
          have:decide ((acc.size:Int)≤(1000:Int))=decide (acc.size≤1000):=by simp only [decide_eq_decide];omega
          rw [this]
      · left
        have w3:(decide ((k:Int)≤((k+1:Nat):Int))&&decide (((k+1:Nat):Int)≤(s.size:Int)))=true:=by simp only [Bool.and_eq_true,decide_eq_true_eq];omega
        have w4:s.extract k (k+1)=bs [c]:=by rw [oj s k (k+1) (by omega),e];simp
        have e3:(!decide ((((acc.size+(bs [c]).size:Nat)):Int)>IntKind.i64.max))=true:=by
          have:(bs [c]).size=1:=rfl
          rw [DP,this,Bool.not_eq_true',decide_eq_false_iff_not]
          omega
        simp only [h39,decide_false,Bool.not_false,cond_true,w3,Int.toNat_natCast,w4,e3]
        refine ⟨_,rfl,⟨k+1,rfl,by omega,?_⟩,by simp only [Int.toNat_natCast];omega,?_⟩
        · show (acc++bs [c]).size≤_
          rw [ByteArray.size_append]
          have:(bs [c]).size=1:=rfl
          clear hc h1
          omega
        · simp only [Int.toNat_natCast]
          rw [e1,e,gq,if_neg h39]
          cases gG q with
          |none=>rfl
          |some x=>
            simp only [Option.map_some,txR,kL,ByteArray.size_append,cQ,List.length_cons,List.length_nil,List.cons_append,List.nil_append]
            congr 3
            have:acc.size+(0+1)+x.1.length=acc.size+(x.1.length+1):=by omega
            rw [this]
    · right
      have:lst s k=[]:=by
        have:=eO s k
        exact List.length_eq_zero_iff.1 (by omega)
      have d1:decide ((k:Int)<(s.size:Int))=false:=by simp;omega
      rw [this]
      simp only [d1,cond_false]
      rfl
  · simp only [Int.toNat_natCast,h1]
end Go.Proofs.Ytleadolkcmagfaa
end
section
namespace Go.Proofs.Ytleadolkcmagfaa
open Go Lv Go.Proofs Go.RowKit Go.Shelf Dl
theorem rrun (p : UInt8 → Bool) (G : Int × Unit → Option (Bool × Unit)) (hG : ∀ c : UInt8,G ((c.toNat : Int),()) = some (p c,())) (s : ByteArray) (hs : s.size ≤ 100000000) (i : Nat) (hi : i ≤ s.size) {R Q : Type} (K : ((Int × Unit) ⊕ R) → Option Q) :
    Option.bind (bE (S:=Int×Unit) (fun (x7',_)=>
  (bif (decide (x7'<(s.size:Int))) then
  bif (decide (0≤x7')&&decide (x7'<(s.size:Int))) then
  let e7:Int:=(eK s (Int.toNat x7'))
  Option.bind (G (e7,())) fun y8=>
  (bif y8.1 then
  let e9:Int:=(IntKind.i64.wrap (x7'+(1:Int)))
  some (.inl (e9,()))
  else
  some (.inr (.inl (x7',()))))
  else none
  else
  some (.inr (.inl (x7',()))))) ((i:Int),()):Option ((Int×Unit)⊕R)) K=K (.inl (((i+((lst s i).takeWhile p).length:Nat):Int),())):=by
  rw [fb (S:=Int×Unit) (m:=fun x=>s.size-x.1.toNat) (I:=fun x=>∃k:Nat,x.1=(k:Int)∧k≤s.size) (f:=fun x=> .inl (((x.1.toNat+((lst s x.1.toNat).takeWhile p).length:Nat):Int),())) ?_ _ ⟨i,rfl,hi⟩]
  · simp only [Option.bind_some,Int.toNat_natCast]
  · rintro ⟨b,⟨⟩⟩ ⟨k,hk',hle⟩
    simp only at hk'
    subst hk'
    simp only [Int.toNat_natCast]
    by_cases hlt:k<s.size
    · obtain ⟨c,r,e⟩:=mK hlt
      obtain ⟨_,e1,e2⟩:=eu e
      have d1:decide ((k:Int)<(s.size:Int))=true:=by simp;omega
      have d0:decide (0≤(k:Int))=true:=by simp
      simp only [d1,d0,Bool.and_self,cond_true,e2,hG,Option.bind_some,cw hlt (show s.size<9223372036854775808 by omega)]
      cases hb:p c with
      |true=>
        left
        simp only [cond_true]
        refine ⟨_,rfl,⟨k+1,rfl,by omega⟩,by simp only [Int.toNat_natCast];omega,?_⟩
        simp only [Int.toNat_natCast]
        rw [e1,e]
        simp only [List.takeWhile_cons,hb,if_true,List.length_cons]
        congr 3
        omega
      |false=>
        right
        simp only [cond_false]
        rw [e]
        simp only [List.takeWhile_cons,hb,Bool.false_eq_true,if_false,List.length_nil,Nat.add_zero]
    · right
      have:lst s k=[]:=by
        have:=eO s k
        exact List.length_eq_zero_iff.1 (by omega)
      have hd:decide ((k:Int)<(s.size:Int))=false:=by simp;omega
      simp only [this,hd,cond_false,List.takeWhile_nil,List.length_nil,Nat.add_zero]
theorem CI {p:UInt8→Bool} (r:List UInt8):(r.takeWhile p).all p=true:=by
 induction r with
 |nil=>rfl
 |cons c r ih=>
  rw [List.takeWhile_cons]
  cases h:p c with
  |true=>simp [h,ih]
  |false=>simp
theorem DU {c:UInt8} {r:List UInt8} (hl:fm c=true):jC (bs (c::r.takeWhile cE))=decide ((c::r.takeWhile cE).length≤30):=by
 unfold jC
 rw [jJ]
 simp only [gB,hl,Bool.true_and]
 have:(c::r.takeWhile cE).all cE=true:=by
  rw [List.all_cons,CI,Bool.and_true]
  simp [cE,hl]
 rw [this];rfl
theorem KW (    s : ByteArray) : d8.F (s,()) = some (if 20000 < s.size then (60,[],()) else tJ [] (jB s.data.toList)) := by
  rw [d8.eq]
  unfold d8.B
  simp only []
  by_cases hb:20000<s.size
  · have:decide ((s.size:Int)>(20000:Int))=true:=by simp;omega
    simp only [this,cond_true,if_pos hb]
  · have : decide ((s.size : Int) > (20000 : Int)) = false := by simp; omega
    simp only [this,cond_false,if_neg hb]
    have hs:s.size≤100000000:=by omega
    refine (fb (S:=Int×(List bH)×Unit) (m:=fun x=>s.size-x.1.toNat)
      (I:=fun x=>∃k:Nat,x.1=(k:Int)∧k≤s.size∧x.2.1.length≤k)
      (f:=fun x=>tJ x.2.1 (jB (lst s x.1.toNat))) ?_ _ ⟨0,rfl,by omega,by show 0≤_;omega⟩).trans ?_
    · rintro ⟨b,out,⟨⟩⟩ ⟨k,hk,hle,hlen⟩
      simp only at hk hlen
      subst hk
      simp only [Int.toNat_natCast]
      by_cases hlt:k<s.size
      · obtain ⟨c,r,e⟩:=mK hlt
        obtain ⟨_,e1,e2⟩:=eu e
        have d1:decide ((k:Int)<(s.size:Int))=true:=by simp;omega
        have d0:decide (0≤(k:Int))=true:=by simp
        have w1:IntKind.i64.wrap ((k:Int)+(1:Int))=((k+1:Nat):Int):=cw hlt (by omega)
        have w3:(decide ((k:Int)≤((k+1:Nat):Int))&&decide (((k+1:Nat):Int)≤(s.size:Int)))=true:=by simp only [Bool.and_eq_true,decide_eq_true_eq];omega
        have w4:s.extract k (k+1)=bs [c]:=by rw [oj s k (k+1) (by omega),e];simp
        have c32:((c.toNat:Int)==(32:Int))=decide (c=32):=kz c 32 (by decide)
        have c45:((c.toNat:Int)==(45:Int))=decide (c=45):=kz c 45 (by decide)
        have c39:((c.toNat:Int)==(39:Int))=decide (c=39):=kz c 39 (by decide)
        have fin:∀(x:Tok×List UInt8) (j:Nat),jb (c::r)=some x→c≠32→k<j→j≤s.size→lst s j=x.2→
            (∃s',(bif (Nat.ble (out.length+ [(x.1.1,(x.1.2.1,(x.1.2.2.1,(x.1.2.2.2.1,x.1.2.2.2.2))))].length) 2513169434916) then
              some (.inl ((j:Int),(out++ [(x.1.1,(x.1.2.1,(x.1.2.2.1,(x.1.2.2.2.1,x.1.2.2.2.2))))]),())) else none:Option ((Int×(List bH)×Unit)⊕(Int×(List bH)×Unit)))=some (.inl s')∧
              (∃k':Nat,s'.1=(k':Int)∧k'≤s.size∧s'.2.1.length≤k')∧s.size-s'.1.toNat<s.size-k∧tJ s'.2.1 (jB (lst s s'.1.toNat))=tJ out (jB (lst s k))):=by
          intro x j hx h32 hj hj2 hl
          have d2:Nat.ble (out.length+ [(x.1.1,(x.1.2.1,(x.1.2.2.1,(x.1.2.2.2.1,x.1.2.2.2.2))))].length) 2513169434916=true:=by
            rw [Nat.ble_eq];simp;omega
          rw [d2]
          refine ⟨_,rfl,⟨j,rfl,hj2,by simp;omega⟩,by simp only [Int.toNat_natCast];omega,?_⟩
          simp only [Int.toNat_natCast]
          rw [e,ny r h32,hx,hl]
          simp only [Option.bind_some]
          cases jB x.2 with
          |none=>rfl
          |some l=>simp [tJ]
        have bad:jb (c::r)=none→c≠32→tJ out (jB (lst s k))=((60:Int),[],()):=by
          intro hx h32
          rw [e,ny r h32,hx];rfl
        simp only [d1,d0,Bool.and_self,cond_true,w1,w3,Int.toNat_natCast,w4,e2,JI,Option.bind_some,c32,Bool.true_and]
        by_cases h32:c=32
        · subst h32
          left
          simp only [decide_true,cond_true]
          refine ⟨_,rfl,⟨k+1,rfl,by omega,by simp only;omega⟩,by simp only [Int.toNat_natCast];omega,?_⟩
          simp only [Int.toNat_natCast]
          rw [e1,e,oh]
        · have htw:=jl (p:=cE) r
          have htd:=jl (p:=digit) r
          have hl1:=eO s (k+1)
          rw [e1] at hl1
          simp only [h32,decide_false,cond_false,tM,Option.bind_some]
          cases hl:fm c with
          |true=>
            simp only [cond_true]
            rw [rrun cE cR.F CB s hs (k+1) (by omega)]
            rw [e1]
            have hx:s.extract k (k+1+(r.takeWhile cE).length)=bs (c::r.takeWhile cE):=by
              rw [oj s k _ (by omega),e,show k+1+(r.takeWhile cE).length-k=(r.takeWhile cE).length+1 by omega,List.take_succ_cons,←jp]
            have d5:(decide ((k:Int)≤((k+1+(r.takeWhile cE).length:Nat):Int))&&decide (((k+1+(r.takeWhile cE).length:Nat):Int)≤(s.size:Int)))=true:=by
              simp only [Bool.and_eq_true,decide_eq_true_eq];omega
            have hwz:(bs (c::r.takeWhile cE)).size<1000000000000000000:=by rw [cQ];simp only [List.length_cons];omega
            simp only [d0,d5,Bool.and_self,cond_true,Int.toNat_natCast,hx,EN _ hwz,Option.bind_some,DU hl]
            have ht:jb (c::r)=if (c::r.takeWhile cE).length≤30 then some (wordT (c::r.takeWhile cE),r.dropWhile cE) else none:=by
              simp only [jb,hl,if_true]
            by_cases hn:(c::r.takeWhile cE).length≤30
            · rw [if_pos hn] at ht
              left
              simp only [hn,decide_true,Bool.not_true,cond_false]
              exact fin (wordT (c::r.takeWhile cE),r.dropWhile cE) _ ht h32 (by omega) (by omega) (by
                show List.drop _ _=_
                rw [←List.drop_drop,jo,show List.drop (k+1) s.data.toList=r from e1])
            · rw [if_neg hn] at ht
              right
              simp only [hn,decide_false,Bool.not_false,cond_true]
              rw [bad ht h32]
          | false =>
            simp only [cond_false]
            have hmid:∀{R:Type},(Option.bind (cF.F ((c.toNat:Int),())) fun y14=>
                (bif y14.1 then some (.inl (true,()))
                else (bif ((c.toNat:Int)==(45:Int)) then
                  (bif (decide (((k+1:Nat):Int)<(s.size:Int))) then
                    bif (decide (0≤((k+1:Nat):Int))&&decide (((k+1:Nat):Int)<(s.size:Int))) then
                    Option.bind (cF.F (eK s (k+1),())) fun y16=>some (.inl (y16.1,()))
                    else none
                  else some (.inl (false,())))
                  else some (.inl (false,())))):Option ((Bool×Unit)⊕R))=some (.inl (digit c||(decide (c=45)&&gC r),())):=by
              intro R
              rw [sZ,c45]
              simp only [Option.bind_some]
              cases digit c with
              |true=>rfl
              |false=>
                by_cases h45:c=45
                · simp only [h45,decide_true,cond_true,cond_false,Bool.false_or,Bool.true_and]
                  by_cases hlt2:k+1<s.size
                  · obtain ⟨d,q',e'⟩:=mK hlt2
                    obtain ⟨_,e1',e2'⟩:=eu e'
                    rw [e1] at e'
                    subst e'
                    have d2:decide (((k+1:Nat):Int)<(s.size:Int))=true:=by simp only [decide_eq_true_eq];omega
                    have d3:decide (0≤((k+1:Nat):Int))=true:=by simp only [decide_eq_true_eq];omega
                    simp only [d2,d3,Bool.and_self,cond_true,e2',sZ,Option.bind_some,gC]
                  · have hq:r=[]:=List.length_eq_zero_iff.1 (by omega)
                    subst hq
                    have d2:decide (((k+1:Nat):Int)<(s.size:Int))=false:=by simp only [decide_eq_false_iff_not];omega
                    simp only [d2,cond_false,gC]
                · simp only [h45,decide_false,cond_false,Bool.false_and,Bool.or_self]
            rw [hmid]
            simp only [Option.bind_some]
            cases hd:(digit c||(decide (c=45)&&gC r)) with
            |true=>
              simp only [cond_true]
              rw [rrun digit cF.F sZ s hs (k+1) (by omega)]
              rw [e1]
              have hx:s.extract k (k+1+(r.takeWhile digit).length)=bs (c::r.takeWhile digit):=by
                rw [oj s k _ (by omega),e,show k+1+(r.takeWhile digit).length-k=(r.takeWhile digit).length+1 by omega,List.take_succ_cons,←jp]
              have d5:(decide ((k:Int)≤((k+1+(r.takeWhile digit).length:Nat):Int))&&decide (((k+1+(r.takeWhile digit).length:Nat):Int)≤(s.size:Int)))=true:=by
                simp only [Bool.and_eq_true,decide_eq_true_eq];omega
              have hnum:=F6 c (r.takeWhile digit) (CI r) (by
                simp only [Bool.or_eq_true,Bool.and_eq_true,decide_eq_true_eq] at hd
                refine hd.imp id fun h=>⟨h.1,?_⟩
                cases r with
                |nil=>exact absurd h.2 (by simp [gC])
                |cons d r'=>simp only [gC] at h;simp [List.takeWhile_cons,h.2]) (by simp only [List.length_cons];omega)
              have ht:jb (c::r)=(pY (c::r.takeWhile digit)).map fun n=>(numT n,r.dropWhile digit):=by
                simp only [jb,hl,hd,if_true,Bool.false_eq_true,if_false]
              simp only [d0,d5,Bool.and_self,cond_true,Int.toNat_natCast,hx]
              cases hn:pY (c::r.takeWhile digit) with
              |some n=>
                rw [hn] at hnum ht
                left
                rw [hnum]
                simp only [Option.bind_some,z6,Bool.not_true,cond_false]
                exact fin (numT n,r.dropWhile digit) _ ht h32 (by omega) (by omega) (by
                  show List.drop _ _=_
                  rw [←List.drop_drop,jo,show List.drop (k+1) s.data.toList=r from e1])
              |none=>
                rw [hn] at hnum ht
                obtain ⟨n,hnum⟩:=hnum
                right
                rw [hnum]
                simp only [Option.bind_some,z6,Bool.not_false,cond_true]
                rw [bad ht h32]
            | false =>
              simp only [cond_false,c39]
              by_cases h39:c=39
              · subst h39
                have ht:jb (39::r)=(gG r).bind fun x=>if x.1.length≤1000 then some (textT x.1,x.2) else none:=by
                  simp only [jb,hl,hd,if_true,Bool.false_eq_true,if_false]
                simp only [decide_true,cond_true,JJ s hs k e,Option.bind_some]
                cases hx:gG r with
                |none=>
                  rw [hx] at ht
                  right
                  simp only [txR,Bool.not_false,cond_true]
                  rw [bad ht h32]
                |some x=>
                  rw [hx] at ht
                  simp only [Option.bind_some] at ht
                  have hz:e0.size=0:=rfl
                  simp only [txR,hz,Nat.zero_add]
                  by_cases hn:x.1.length≤1000
                  · rw [if_pos hn] at ht
                    left
                    simp only [hn,decide_true,Bool.not_true,cond_false]
                    obtain ⟨a1,a2⟩:=tD _ r (Nat.le_refl _) x hx
                    have hj:=xu (s:=s) (i:=k+1) (r:=x.2) (j:=s.size-x.2.length) ⟨dbl x.1++ [39],by rw [e1,a1];simp⟩ (by omega) rfl
                    have he:e0++bs x.1=bs x.1:=by rw [show e0=bs [] from rfl,jE];rfl
                    rw [he]
                    exact fin (textT x.1,x.2) _ ht h32 (by omega) (by omega) hj.1
                  · rw [if_neg hn] at ht
                    right
                    simp only [hn,decide_false,Bool.not_false,cond_true]
                    rw [bad ht h32]
              · have ht:jb (c::r)=if c∈fz then some (signT c,r) else none:=by
                  simp only [jb,hl,hd,h39,Bool.false_eq_true,if_false]
                simp only [h39,decide_false,cond_false]
                by_cases hg:c∈fz
                · rw [if_pos hg] at ht
                  left
                  simp only [hg,decide_true,Bool.not_true,cond_false]
                  exact fin (signT c,r) (k+1) ht h32 (by omega) (by omega) e1
                · rw [if_neg hg] at ht
                  right
                  simp only [hg,decide_false,Option.bind_some,Bool.not_false,cond_true]
                  rw [bad ht h32]
      · right
        have hd:decide ((k:Int)<(s.size:Int))=false:=by simp;omega
        have:lst s k=[]:=by
          have:=eO s k
          exact List.length_eq_zero_iff.1 (by omega)
        rw [this]
        simp only [hd,cond_false]
        simp [xf,tJ]
    · rfl
end Go.Proofs.Ytleadolkcmagfaa
end
section
namespace Go.Proofs.Ytleadolkcmagfaa
open Go Lv Go.Proofs Go.RowKit Go.Shelf Dl
abbrev TL (L:List Tok):Prop:=L.length≤100000000∧gA L
structure Rf {α:Type} (p:List Tok→Option (α×List Tok)) (L:List Tok) (k:Nat) (ok:Bool) (v:α) (k':Nat) (ok':Bool):Prop where
 le:k≤k'
 hi:k'≤L.length
 no:ok=false→ok'=false
 yes:ok=true→p (L.drop k)=bif ok' then some (v,L.drop k') else none
abbrev tkb (s:ByteArray) (L:List Tok) (k:Nat):Bool:=(tk s (L.drop k)).isSome
theorem gY {s:ByteArray} {L:List Tok} {k:Nat} (h:tkb s L k=true):k<L.length∧tk s (L.drop k)=some (L.drop (k+1)):=by
 by_cases hk:k<L.length
 ·refine ⟨hk,?_⟩
  unfold tkb at h
  rw [List.drop_eq_getElem_cons hk] at h ⊢
  simp only [tk] at h ⊢
  split
  ·rfl
  ·rename_i hn;rw [if_neg hn] at h;cases h
 ·unfold tkb at h
  rw [List.drop_eq_nil_of_le (by omega)] at h
  cases h
theorem iq {s:ByteArray} {L:List Tok} {k:Nat} (h:tkb s L k=false):tk s (L.drop k)=none:=by
 cases e:tk s (L.drop k) with
 |none=>rfl
 |some r=>unfold tkb at h;rw [e] at h;cases h
theorem Kk (s:ByteArray) (L:List Tok) (k:Nat) (ok:Bool):bF.F (s,L,(k:Int),ok,())=some (tkb s L k,L,(k:Int),ok,()):=by
 rw [bF.eq]
 unfold bF.B
 by_cases hk:k<L.length
 ·have d1:decide ((k:Int)<(L.length:Int))=true:=by simp;omega
  have d0:decide (0≤(k:Int))=true:=by simp
  simp only [d1,d0,Bool.and_self,cond_true,Int.toNat_natCast,bU hk,dY,AV]
  unfold tkb
  rw [List.drop_eq_getElem_cons hk]
  simp only [tk]
  by_cases h1:L[k].1=1
  ·simp [h1]
  ·by_cases h2:L[k].2.1=s<;>simp [h1,h2]
 ·have d1:decide ((k:Int)<(L.length:Int))=false:=by simp;omega
  simp only [d1,cond_false]
  unfold tkb
  rw [List.drop_eq_nil_of_le (by omega)]
  rfl
abbrev kI (b:Bool) (k:Nat):Nat:=bif b then k+1 else k
theorem eG (s:ByteArray) (L:List Tok) (hL:TL L) (k:Nat) (ok:Bool) (hk:k≤L.length):ax.F (s,L,(k:Int),ok,())=some (tkb s L k,L,((kI (tkb s L k) k:Nat):Int),ok,()):=by
 rw [ax.eq]
 unfold ax.B
 have w:IntKind.i64.wrap ((k:Int)+1)=((k+1:Nat):Int):=by have:=hL.1;rw [dl]<;>omega
 simp only [Kk,Option.bind_some,w]
 cases tkb s L k<;>rfl
theorem oS {s:ByteArray} {L:List Tok} {k:Nat} (hk:k≤L.length):k≤kI (tkb s L k) k∧kI (tkb s L k) k≤L.length:=by
 cases h:tkb s L k with
 |false=>exact ⟨Nat.le_refl _,hk⟩
 |true=>have:=(gY h).1;exact ⟨by show k≤k+1;omega,by show k+1≤_;omega⟩
theorem oo (s:ByteArray) (L:List Tok) (hL:TL L) (k:Nat) (ok:Bool) (hk:k≤L.length):aX.F (s,L,(k:Int),ok,())=some (L,((kI (tkb s L k) k:Nat):Int),ok&&tkb s L k,()):=by
 rw [aX.eq]
 unfold aX.B
 simp only [eG s L hL k ok hk,Option.bind_some]
 cases tkb s L k<;>simp
theorem JK {s:ByteArray} {l r:List Tok} (h:tk s l=some r):r.length+1=l.length:=by
 cases l with
 |nil=>cases h
 |cons t l=>
  simp only [tk] at h
  split at h
  ·cases h;simp
  ·cases h
theorem F7:∀{ws:List ByteArray} {i:Int} {l:List Tok} {x},gH i ws l=some x→x.2.length+1=l.length:=by
 intro ws
 induction ws with
 |nil=>intro i l x h;cases h
 |cons w ws ih=>
  intro i l x h
  simp only [gH] at h
  split at h
  ·rename_i r hr
   cases h
   exact JK hr
  ·exact ih h
theorem A0 (ws : List ByteArray) (hw : ws.length < 1000) (L : List Tok) (hL : TL L) (k : Nat) (ok : Bool) (hk : k ≤ L.length) :
    ∃(v:Int) (k':Nat) (ok':Bool),bp.F (ws,L,(k:Int),ok,())=some (v,L,(k':Int),ok',())∧Rf (gH 0 ws) L k ok v k' ok'∧0≤v∧v≤(ws.length:Int):=by
  have key:bp.F (ws,L,(k:Int),ok,())=some (match gH 0 ws (L.drop k) with
      |some y=>(y.1,L,((k+1:Nat):Int),ok,())
      |none=>(0,L,(k:Int),false,())):=by
    rw [bp.eq]
    unfold bp.B
    simp only []
    rw [fb (S:=Int×(List bH)×Int×Bool×Unit) (m:=fun x=>ws.length-x.1.toNat) (I:=fun x=>(∃i:Nat,x.1=(i:Int)∧i≤ws.length)∧x.2=(L,(k:Int),ok,()))
      (f:=fun x=>match gH x.1 (ws.drop x.1.toNat) (L.drop k) with
        |some y=> .inr (y.1,L,((k+1:Nat):Int),ok,())
        |none=> .inl (L,(k:Int),ok,())) ?_ _ ⟨⟨0,rfl,by omega⟩,rfl⟩]
    · simp only [Option.bind_some,Int.toNat_zero,List.drop_zero]
      cases gH 0 ws (L.drop k)<;>rfl
    · rintro ⟨x,a,b,c,⟨⟩⟩ ⟨⟨i,hi,hle⟩,ha⟩
      simp only [Prod.mk.injEq,and_true] at hi ha
      obtain ⟨rfl,rfl,rfl⟩:=ha
      subst hi
      simp only [Int.toNat_natCast]
      by_cases hlt:i<ws.length
      · have d1:decide ((i:Int)<(ws.length:Int))=true:=by simp;omega
        have d0:decide (0≤(i:Int))=true:=by simp
        simp only [d1,d0,Bool.and_self,cond_true,bU hlt,eG _ a hL k c hk,Option.bind_some]
        rw [List.drop_eq_getElem_cons hlt]
        simp only [gH]
        cases h:tkb ws[i] a k with
        |true=>
          right
          rw [(gY h).2]
          rfl
        |false=>
          left
          rw [iq h]
          simp only [cond_false,cw hlt (show ws.length<9223372036854775808 by omega)]
          refine ⟨_,rfl,⟨⟨i+1,rfl,by omega⟩,rfl⟩,by simp only [Int.toNat_natCast];omega,?_⟩
          simp only [Int.toNat_natCast]
          rfl
      · right
        have d1:decide ((i:Int)<(ws.length:Int))=false:=by simp;omega
        simp only [d1,cond_false]
        rw [List.drop_eq_nil_of_le (by omega)]
        rfl
  cases h:gH 0 ws (L.drop k) with
  |none=>
    rw [h] at key
    exact ⟨0,k,false,key,⟨Nat.le_refl _,hk,fun _=>rfl,fun _=>by rw [h];rfl⟩,by omega,by omega⟩
  |some y=>
    rw [h] at key
    have hlen:y.2.length+1=(L.drop k).length:=F7 h
    have hsuf:=iR h
    obtain ⟨hle1,hle2⟩:=EI h
    have hk1:k+1≤L.length:=by rw [List.length_drop] at hlen;omega
    refine ⟨y.1,k+1,ok,key,⟨by omega,hk1,fun h=>h,fun h1=>?_⟩,by omega,by omega⟩
    rw [h,h1]
    have:y.2=L.drop (k+1):=by
      obtain ⟨q,hq⟩:=hsuf
      have h1:q.length=1:=by have:=congrArg List.length hq;rw [List.length_append] at this;omega
      have h2:(L.drop k).drop 1=y.2:=by rw [←hq,←h1,List.drop_left]
      rw [List.drop_drop] at h2
      exact h2.symm
    show some y=some (y.1,L.drop (k+1))
    rw [←this]
theorem s6 (L:List Tok) (hL:TL L) (k:Nat) (ok:Bool) (hk:k≤L.length):
 bq.F (L,(k:Int),ok,())=some (match L.drop k with
  | []=>((-1:Int),e0,(0:Int),(0:Int),e0,L,(k:Int),false,())
  |t::_=>(t.1,t.2.1,t.2.2.1,t.2.2.2.1,t.2.2.2.2,L,((k+1:Nat):Int),ok,())):=by
 rw [bq.eq]
 unfold bq.B
 by_cases h:k<L.length
 ·have d1:decide ((k:Int)≥(L.length:Int))=false:=by simp;omega
  have w1:IntKind.i64.wrap ((k:Int)+(1:Int))=((k+1:Nat):Int):=by have:=hL.1;rw [dl]<;>omega
  have w2:IntKind.i64.wrap (((k+1:Nat):Int)-(1:Int))=(k:Int):=by have:=hL.1;rw [dl]<;>omega
  have d2:(decide (0≤(k:Int))&&decide ((k:Int)<(L.length:Int)))=true:=by simp;omega
  simp only [d1,cond_false,w1,w2,d2,cond_true,Int.toNat_natCast,bU h]
  rw [List.drop_eq_getElem_cons h]
 ·have d1:decide ((k:Int)≥(L.length:Int))=true:=by simp;omega
  simp only [d1,cond_true]
  rw [List.drop_eq_nil_of_le (by omega)]
theorem tO {L:List Tok} {k:Nat} {t:Tok} {r:List Tok} (h:L.drop k=t::r):k<L.length∧r=L.drop (k+1)∧t∈L:=by
 have hk:k<L.length:=by
  rcases Nat.lt_or_ge k L.length with hk|hk
  ·exact hk
  ·rw [List.drop_eq_nil_of_le hk] at h;cases h
 rw [List.drop_eq_getElem_cons hk] at h
 cases h
 exact ⟨hk,rfl,List.getElem_mem hk⟩
theorem qt (L : List Tok) (hL : TL L) (k : Nat) (ok : Bool) (hk : k ≤ L.length) :
    ∃(v:ByteArray) (k':Nat) (ok':Bool),bd.F (L,(k:Int),ok,())=some (v,L,(k':Int),ok',())∧Rf ii L k ok v k' ok':=by
  rw [bd.eq]
  unfold bd.B
  simp only [s6 L hL k ok hk,Option.bind_some]
  cases h:L.drop k with
  |nil=>
    refine ⟨e0,k,false,?_,Nat.le_refl _,hk,fun _=>rfl,fun _=>by rw [h];rfl⟩
    rfl
  |cons t r=>
    obtain ⟨h1,h2,h3⟩:=tO h
    have hz:t.2.1.size<1000000000000000000:=by have:=Cw (hL.2 t h3);omega
    simp only [JB t.2.1 hz,Option.bind_some,AV]
    by_cases h0:t.1=0
    · cases hn:isName t.2.1 with
      |true=>
        refine ⟨t.2.1,k+1,ok,?_,by omega,h1,fun h=>h,fun e=>?_⟩
        · simp [h0]
        · rw [h,e];simp [ii,h0,hn,h2]
      |false=>
        refine ⟨t.2.1,k+1,false,?_,by omega,h1,fun _=>rfl,fun e=>?_⟩
        · simp [h0]
        · rw [h];simp [ii,hn]
    · refine ⟨t.2.1,k+1,false,?_,by omega,h1,fun _=>rfl,fun e=>?_⟩
      · simp [h0]
      · rw [h];simp [ii,h0]
theorem xE (    L : List Tok) (hL : TL L) (k : Nat) (ok : Bool) (hk : k ≤ L.length) :
    ∃(v:Int) (k':Nat) (ok':Bool),bg.F (L,(k:Int),ok,())=some (v,L,(k':Int),ok',())∧Rf kc L k ok v k' ok':=by
  rw [bg.eq]
  unfold bg.B
  simp only [s6 L hL k ok hk,Option.bind_some]
  cases h:L.drop k with
  |nil=>
    refine ⟨0,k,false,?_,Nat.le_refl _,hk,fun _=>rfl,fun _=>by rw [h];rfl⟩
    rfl
  |cons t r=>
    obtain ⟨h1,h2,h3⟩:=tO h
    simp only [AV]
    by_cases g:t.1=1∧t.2.2.1=2∧0≤t.2.2.2.1∧t.2.2.2.1≤99
    · obtain ⟨g1,g2,g3,g4⟩:=g
      refine ⟨t.2.2.2.1,k+1,ok,?_,by omega,h1,fun h=>h,fun e=>?_⟩
      · have a1:decide (t.2.2.2.1<(0:Int))=false:=by simp;omega
        have a2:decide (t.2.2.2.1>(99:Int))=false:=by simp;omega
        simp only [g1,g2,a1,a2,decide_true,Bool.not_true,cond_false,Option.bind_some]
      · rw [h,e];simp [kc,g1,g2,g3,g4,h2]
    · refine ⟨t.2.2.2.1,k+1,false,?_,by omega,h1,fun _=>rfl,fun e=>?_⟩
      · by_cases g1:t.1=1
        · by_cases g2:t.2.2.1=2
          · by_cases g3:t.2.2.2.1<0
            · simp only [g1,g2,decide_true,Bool.not_true,cond_false,decide_eq_true g3,cond_true,Option.bind_some]
            · have a1:decide (t.2.2.2.1<(0:Int))=false:=by simp;omega
              have a2:decide (t.2.2.2.1>(99:Int))=true:=by
                rw [decide_eq_true_eq]
                rcases Int.lt_or_le 99 t.2.2.2.1 with h|h
                · exact h
                · exact absurd ⟨g1,g2,by omega,h⟩ g
              simp only [g1,g2,a1,a2,decide_true,Bool.not_true,cond_false,cond_true,Option.bind_some]
          · simp only [g1,g2,decide_true,decide_false,Bool.not_true,Bool.not_false,cond_false,cond_true,Option.bind_some]
        · simp only [g1,decide_false,Bool.not_false,cond_true,Option.bind_some]
      · rw [h];simp only [kc];rw [if_neg g];rfl
end Go.Proofs.Ytleadolkcmagfaa
end
section
namespace Go.Proofs.Ytleadolkcmagfaa
open Go Lv Go.Proofs Go.RowKit Go.Shelf Dl
theorem H6 (s:ByteArray) (L:List Tok) (k:Nat):iQ s (L.drop k)=(tkb s L k,L.drop (kI (tkb s L k) k)):=by
 cases h:tkb s L k with
 |true=>exact zY (gY h).2
 |false=>exact zX (iq h)
theorem z7 (L : List Tok) (hL : TL L) (k : Nat) (ok : Bool) (hk : k ≤ L.length) :
    ∃(v:Col) (k':Nat) (ok':Bool),bb.F (L,(k:Int),ok,())=some (v.1,v.2.1,v.2.2.1,v.2.2.2.1,v.2.2.2.2.1,v.2.2.2.2.2,L,(k':Int),ok',())∧Rf gQ L k ok v k' ok':=by
  rw [bb.eq]
  unfold bb.B
  simp only []
  obtain ⟨v1,k1,o1,e1,r1⟩:=qt L hL k ok hk
  rw [e1]
  simp only [Option.bind_some]
  obtain ⟨v2,k2,o2,e2,r2,g1,g2⟩:=A0 kinds (by decide) L hL k1 o1 r1.hi
  have g2':v2≤3:=g2
  have hw:IntKind.i64.wrap ((1:Int)+v2)=1+v2:=by rw [dl]<;>omega
  rw [e2]
  simp only [Option.bind_some,hw]
  have q3:=oS (s:=(⟨#[110,117,108,108]⟩:ByteArray)) r2.hi
  rw [eG _ L hL k2 o2 r2.hi]
  simp only [Option.bind_some]
  have q4:=oS (s:=(⟨#[117,110,105,113,117,101]⟩:ByteArray)) q3.2
  rw [eG _ L hL _ o2 q3.2]
  simp only [Option.bind_some]
  have q5:=oS (s:=(⟨#[114,101,102]⟩:ByteArray)) q4.2
  rw [eG _ L hL _ o2 q4.2]
  simp only [Option.bind_some]
  generalize hb3:tkb (⟨#[110,117,108,108]⟩:ByteArray) L k2=b3 at q3 q4 q5 ⊢
  generalize hk3:kI b3 k2=k3 at q3 q4 q5 ⊢
  generalize hb4:tkb (⟨#[117,110,105,113,117,101]⟩:ByteArray) L k3=b4 at q4 q5 ⊢
  generalize hk4:kI b4 k3=k4 at q4 q5 ⊢
  have f3:iQ (⟨#[110,117,108,108]⟩:ByteArray) (L.drop k2)=(b3,L.drop k3):=by rw [H6,hb3,hk3]
  have f4:iQ (⟨#[117,110,105,113,117,101]⟩:ByteArray) (L.drop k3)=(b4,L.drop k4):=by rw [H6,hb4,hk4]
  have c1:=r1.le
  have c2:=r2.le
  cases hb5:tkb (⟨#[114,101,102]⟩:ByteArray) L k4 with
  |false=>
    simp only [cond_false]
    refine ⟨(v1,(1+v2,(b3,(b4,(e0,0))))),k4,o2,rfl,by omega,q4.2,fun h=>r2.no (r1.no h),fun h=>?_⟩
    unfold gQ
    rw [r1.yes h]
    cases o1 with
    |false=>rw [r2.no rfl];rfl
    |true=>
      simp only [cond_true,Option.bind_some]
      rw [r2.yes rfl]
      cases o2 with
      |false=>rfl
      |true=>
        simp only [cond_true,Option.bind_some,f3,f4]
        unfold Ch
        rw [iq hb5]
        rfl
  |true=>
    obtain ⟨s1,s2⟩:=gY hb5
    have hk5:kI true k4=k4+1:=rfl
    simp only [cond_true,hk5]
    obtain ⟨v6,k6,o6,e6,r6⟩:=qt L hL (k4+1) o2 (by omega)
    rw [e6]
    simp only [Option.bind_some]
    obtain ⟨v7,k7,o7,e7,r7,_,_⟩:=A0 yj (by decide) L hL k6 o6 r6.hi
    rw [e7]
    simp only [Option.bind_some]
    have c6:=r6.le
    have c7:=r7.le
    refine ⟨(v1,(1+v2,(b3,(b4,(v6,v7))))),k7,o7,rfl,by omega,r7.hi,fun h=>r7.no (r6.no (r2.no (r1.no h))),fun h=>?_⟩
    unfold gQ
    rw [r1.yes h]
    cases o1 with
    |false=>rw [r7.no (r6.no (r2.no rfl))];rfl
    |true=>
      simp only [cond_true,Option.bind_some]
      rw [r2.yes rfl]
      cases o2 with
      |false=>rw [r7.no (r6.no rfl)];rfl
      |true=>
        simp only [cond_true,Option.bind_some,f3,f4]
        unfold Ch
        rw [s2]
        simp only
        rw [r6.yes rfl]
        cases o6 with
        |false=>rw [r7.no rfl];rfl
        |true=>
          simp only [cond_true,Option.bind_some]
          rw [r7.yes rfl]
          cases o7<;>rfl
theorem ET (b:Bool):cX.F (b,())=some (1,(bif b then 1 else 0),e0,()):=by
 rw [cX.eq]
 cases b<;>rfl
def A1 (b:ByteArray):Option Int:=tE b.data.toList
theorem CJ (b:ByteArray) (n:Nat) (hn:n<100):b=(⟨#[99]⟩:ByteArray)++bs (Lib.itoa (n:Int))↔A1 b=some (n:Int):=by
 have hat:Lib.atoiAll (Lib.itoa (n:Int))=.ok (n:Int):=by
  have:∀n:Nat,n<100→Lib.atoiAll (Lib.itoa (n:Int))=.ok (n:Int):=by decide+kernel
  exact this n hn
 constructor
 ·intro h
  subst h
  unfold A1
  have e:((⟨#[99]⟩:ByteArray)++bs (Lib.itoa (n:Int))).data.toList=99::Lib.itoa (n:Int):=by simp
  rw [e]
  simp only [tE,if_true,hat]
  rw [if_pos ⟨by omega,trivial⟩]
 ·intro h
  have:=(tH h).1
  apply Go.WideShapes.bytes_inj
  rw [this]
  simp
theorem xF {b:ByteArray} {m:Int} (h:A1 b=some m) (hb:∀x∈b.data.toList,x≠45):∃n:Nat,n<100∧m=(n:Int):=by
 obtain ⟨h1,h2⟩:=tH h
 have h0:0≤m:=by
  rcases Int.lt_or_le m 0 with hm|hm
  ·exfalso
   apply hb 45 _ rfl
   rw [h1]
   unfold Lib.itoa
   rw [if_pos hm]
   simp
  ·exact hm
 exact ⟨m.toNat,by omega,by omega⟩
end Go.Proofs.Ytleadolkcmagfaa
end
section
namespace Go.Proofs.Ytleadolkcmagfaa
open Go Lv Go.Proofs Go.RowKit Go.Shelf Dl
abbrev opW:List ByteArray:=[(⟨#[43]⟩:ByteArray),(⟨#[45]⟩:ByteArray),(⟨#[42]⟩:ByteArray),(⟨#[61]⟩:ByteArray),(⟨#[60]⟩:ByteArray),(⟨#[97,110,100]⟩:ByteArray),(⟨#[111,114]⟩:ByteArray),(⟨#[110,111,116]⟩:ByteArray)]
theorem H7 (t:Tok) (r:List Tok) (h1:t.1≠1):gH 0 opW (t::r)=(yi t.2.1).map fun op=>(op-2,r):=by
 simp only [gH,tk,yi]
 generalize t.2.1=b
 by_cases a1:b=(⟨#[43]⟩:ByteArray)
 ·subst a1;simp [h1]
 by_cases a2:b=(⟨#[45]⟩:ByteArray)
 ·subst a2;simp [h1]
 by_cases a3:b=(⟨#[42]⟩:ByteArray)
 ·subst a3;simp [h1]
 by_cases a4:b=(⟨#[61]⟩:ByteArray)
 ·subst a4;simp [h1]
 by_cases a5:b=(⟨#[60]⟩:ByteArray)
 ·subst a5;simp [h1]
 by_cases a6:b=(⟨#[97,110,100]⟩:ByteArray)
 ·subst a6;simp [h1]
 by_cases a7:b=(⟨#[111,114]⟩:ByteArray)
 ·subst a7;simp [h1]
 by_cases a8:b=(⟨#[110,111,116]⟩:ByteArray)
 ·subst a8;simp [h1]
 simp [h1,a1,a2,a3,a4,a5,a6,a7,a8]
theorem F8 (t:Tok) (r:List Tok) (h1:t.1=1):gH 0 opW (t::r)=none:=by
 simp [gH,tk,h1]
theorem rN (ws : List ByteArray) (h8 : ws.length = 8) (L : List Tok) (hL : TL L) (k : Nat) (ok : Bool) (hk : k ≤ L.length) :
  bE (S:=Int×(List bH)×Int×Bool×Unit) (R:=((List bH)×Int×Bool×Unit)⊕(Int×Int×Int×Int×ByteArray×(List bH)×Int×Bool×Unit)) (fun (x4,o0_0_0,o0_0_1,o0_0_2,_)=>
  (bif (decide (x4<(8:Int))) then
  bif (decide (0≤x4)&&decide (x4<(ws.length:Int))) then
  let e7:ByteArray:=(List.getD ws (Int.toNat x4) (⟨#[]⟩:ByteArray))
  Option.bind (ax.F (e7,o0_0_0,o0_0_1,o0_0_2,())) fun y8=>
  (bif y8.1 then
  let e9:Int:=(IntKind.i64.wrap ((2:Int)+x4))
  some (.inr (.inr (e9,(0:Int),(0:Int),(0:Int),(⟨#[]⟩:ByteArray),y8.2.1,y8.2.2.1,y8.2.2.2.1,())))
  else
  let e10:Int:=(IntKind.i64.wrap (x4+(1:Int)))
  some (.inl (e10,y8.2.1,y8.2.2.1,y8.2.2.2.1,())))
  else none
  else
  some (.inr (.inl (o0_0_0,o0_0_1,o0_0_2,()))))) ((0:Int),L,(k:Int),ok,())=some (match gH 0 ws (L.drop k) with
    |some y=> .inr (2+y.1,(0:Int),(0:Int),(0:Int),(⟨#[]⟩:ByteArray),L,((k+1:Nat):Int),ok,())
    |none=> .inl (L,(k:Int),ok,())):=by
  rw [fb (S:=Int×(List bH)×Int×Bool×Unit) (m:=fun x=>ws.length-x.1.toNat) (I:=fun x=>(∃i:Nat,x.1=(i:Int)∧i≤ws.length)∧x.2=(L,(k:Int),ok,()))
      (f:=fun x=>match gH x.1 (ws.drop x.1.toNat) (L.drop k) with
        |some y=> .inr (2+y.1,(0:Int),(0:Int),(0:Int),(⟨#[]⟩:ByteArray),L,((k+1:Nat):Int),ok,())
        |none=> .inl (L,(k:Int),ok,())) ?_ _ ⟨⟨0,rfl,by omega⟩,rfl⟩]
  · rfl
  · rintro ⟨x,a,b,c,⟨⟩⟩ ⟨⟨i,hi,hle⟩,ha⟩
    simp only [Prod.mk.injEq,and_true] at hi ha
    obtain ⟨rfl,rfl,rfl⟩:=ha
    subst hi
    simp only [Int.toNat_natCast]
    by_cases hlt:i<ws.length
    · have d1:decide ((i:Int)<(8:Int))=true:=by simp;omega
      have d2:decide ((i:Int)<(ws.length:Int))=true:=by simp;omega
      have d0:decide (0≤(i:Int))=true:=by simp
      have w2:IntKind.i64.wrap ((2:Int)+(i:Int))=2+(i:Int):=by rw [dl]<;>omega
      simp only [d1,d2,d0,Bool.and_self,cond_true,bU hlt,eG _ a hL k c hk,Option.bind_some,w2]
      rw [List.drop_eq_getElem_cons hlt]
      simp only [gH]
      cases h:tkb ws[i] a k with
      |true=>
        right
        rw [(gY h).2]
        rfl
      |false=>
        left
        rw [iq h]
        simp only [cond_false,cw hlt (show ws.length<9223372036854775808 by omega)]
        refine ⟨_,rfl,⟨⟨i+1,rfl,by omega⟩,rfl⟩,by simp only [Int.toNat_natCast];omega,?_⟩
        simp only [Int.toNat_natCast]
        rfl
    · right
      have d1:decide ((i:Int)<(8:Int))=false:=by simp;omega
      simp only [d1,cond_false]
      rw [List.drop_eq_nil_of_le (by omega)]
      rfl
theorem xG (kd : Int) (b : ByteArray) (hb : ∀ x ∈ b.data.toList,x ≠ 45) {T : Type} (X : T) :
  bE (S:=Int×Unit) (R:=Unit⊕(Int×Int×Int×Int×ByteArray×T)) (fun (x6,_)=>
  (bif (decide (x6<(100:Int))) then
  (bif (kd==(0:Int)) then
  Option.bind (bC.F (x6,())) fun y13=>
  bif (!decide ((((⟨#[99]⟩:ByteArray).size+y13.1.size:Nat):Int)>IntKind.i64.max)) then
  let e14:ByteArray:=((⟨#[99]⟩:ByteArray)++y13.1)
  (bif (b.toList==e14.toList) then
  some (.inr (.inr ((0:Int),x6,(0:Int),(0:Int),(⟨#[]⟩:ByteArray),X)))
  else
  let e15:Int:=(IntKind.i64.wrap (x6+(1:Int)))
  some (.inl (e15,())))
  else none
  else
  let e16:Int:=(IntKind.i64.wrap (x6+(1:Int)))
  some (.inl (e16,())))
  else
  some (.inr (.inl (()))))) ((0:Int),())=some (match (if kd=0 then A1 b else none) with
    |some m=> .inr (0,m,0,0,e0,X)
    |none=> .inl ()):=by
  rw [fb (S:=Int×Unit) (m:=fun x=>100-x.1.toNat) (I:=fun x=>∃i:Nat,x.1=(i:Int)∧i≤100)
      (f:=fun x=>match (if kd=0 then A1 b else none) with
        |some m=>if x.1≤m then .inr (0,m,0,0,e0,X) else .inl ()
        |none=> .inl ()) ?_ _ ⟨0,rfl,by omega⟩]
  · by_cases hkd:kd=0
    · rw [if_pos hkd]
      cases h:A1 b with
      |none=>rfl
      |some m=>
        obtain ⟨n,h1,h2⟩:=xF h hb
        simp only
        rw [if_pos (by omega)]
    · rw [if_neg hkd]
  · rintro ⟨x,⟨⟩⟩ ⟨i,hi,hle⟩
    simp only at hi
    subst hi
    by_cases hlt:i<100
    · have d1:decide ((i:Int)<(100:Int))=true:=by simp;omega
      have w1:IntKind.i64.wrap ((i:Int)+(1:Int))=((i+1:Nat):Int):=by rw [dl]<;>omega
      simp only [d1,cond_true,w1]
      by_cases hkd:kd=0
      · have hI:I64 (i:Int):=⟨by omega,by omega⟩
        have hk:(kd==(0:Int))=true:=by simp [hkd]
        have hlen:(Lib.itoa (i:Int)).length≤21:=gX hI
        have hz:(⟨#[99]⟩:ByteArray).size=1:=rfl
        have hmx:(!decide ((((⟨#[99]⟩:ByteArray).size+(bs (Lib.itoa (i:Int))).size:Nat):Int)>IntKind.i64.max))=true:=by
          rw [DP,hz,cQ,Bool.not_eq_true',decide_eq_false_iff_not];omega
        simp only [hk,cond_true,kg _ hI,Option.bind_some,hmx,dY,if_pos hkd]
        by_cases he:b=(⟨#[99]⟩:ByteArray)++bs (Lib.itoa (i:Int))
        · right
          rw [(CJ b i hlt).1 he,decide_eq_true he]
          simp only [cond_true]
          rw [if_pos (Int.le_refl _)]
        · left
          rw [decide_eq_false he]
          simp only [cond_false]
          refine ⟨_,rfl,⟨i+1,rfl,by omega⟩,by simp only [Int.toNat_natCast];omega,?_⟩
          cases h:A1 b with
          |none=>rfl
          |some m=>
            simp only
            have hne:m≠(i:Int):=fun e=>he ((CJ b i hlt).2 (by rw [h,e]))
            by_cases hm:(i:Int)≤m
            · rw [if_pos hm,if_pos (by omega)]
            · rw [if_neg hm,if_neg (by omega)]
      · left
        have hk:(kd==(0:Int))=false:=by simp [hkd]
        simp only [hk,cond_false,if_neg hkd]
        exact ⟨_,rfl,⟨i+1,rfl,by omega⟩,by simp only [Int.toNat_natCast];omega,trivial⟩
    · right
      have d1:decide ((i:Int)<(100:Int))=false:=by simp;omega
      simp only [d1,cond_false]
      by_cases hkd:kd=0
      · rw [if_pos hkd]
        cases h:A1 b with
        |none=>rfl
        |some m=>
          obtain ⟨n,h1,h2⟩:=xF h hb
          simp only
          rw [if_neg (by omega)]
      · rw [if_neg hkd]
theorem H8 (kd:Int) (b:ByteArray) (hkd:¬kd=0) {T:Type} (X:T):
 bE (S:=Int×Unit) (R:=Unit⊕(Int×Int×Int×Int×ByteArray×T)) (fun (x6,_)=>
 (bif (decide (x6<(100:Int))) then
 (bif (kd==(0:Int)) then
 Option.bind (bC.F (x6,())) fun y13=>
 bif (!decide ((((⟨#[99]⟩:ByteArray).size+y13.1.size:Nat):Int)>IntKind.i64.max)) then
 let e14:ByteArray:=((⟨#[99]⟩:ByteArray)++y13.1)
 (bif (b.toList==e14.toList) then
 some (.inr (.inr ((0:Int),x6,(0:Int),(0:Int),(⟨#[]⟩:ByteArray),X)))
 else
 let e15:Int:=(IntKind.i64.wrap (x6+(1:Int)))
 some (.inl (e15,())))
 else none
 else
 let e16:Int:=(IntKind.i64.wrap (x6+(1:Int)))
 some (.inl (e16,())))
 else
 some (.inr (.inl (()))))) ((0:Int),())=some (.inl ()):=by
 rw [fb (S:=Int×Unit) (m:=fun x=>100-x.1.toNat) (I:=fun x=>∃i:Nat,x.1=(i:Int)∧i≤100)
  (f:=fun x=> .inl ()) ?_ _ ⟨0,rfl,by omega⟩]
 ·rintro ⟨x,⟨⟩⟩ ⟨i,hi,hle⟩
  simp only at hi
  subst hi
  by_cases hlt:i<100
  ·have d1:decide ((i:Int)<(100:Int))=true:=by simp;omega
   have w1:IntKind.i64.wrap ((i:Int)+(1:Int))=((i+1:Nat):Int):=by rw [dl]<;>omega
   left
   have hk:(kd==(0:Int))=false:=by simp [hkd]
   simp only [d1,cond_true,w1,hk,cond_false]
   exact ⟨_,rfl,⟨i+1,rfl,by omega⟩,by simp only [Int.toNat_natCast];omega,trivial⟩
  ·right
   have d1:decide ((i:Int)<(100:Int))=false:=by simp;omega
   simp only [d1,cond_false]
end Go.Proofs.Ytleadolkcmagfaa
end
section
namespace Go.Proofs.Ytleadolkcmagfaa
open Go Lv Go.Proofs Go.RowKit Go.Shelf Dl
theorem H9 {c:UInt8} (h:cE c=true):c≠45:=fun e=>by subst e;revert h;decide
theorem JL {t:Tok} (h:i7 t):(t.1=0∧∀x∈t.2.1.data.toList,x≠45)∨t.1=1∨(t.1=2∧tE t.2.1.data.toList=none∧jm t.2.1=none):=by
 cases h with
 |@word w h=>
  left
  refine ⟨rfl,fun x hx=>?_⟩
  rw [show (wordT w).2.1=bs w from rfl,jJ] at hx
  cases w with
  |nil=>cases hx
  |cons c w=>
   simp only [gB,Bool.and_eq_true,List.all_eq_true] at h
   exact H9 (h.1.2 x hx)
 |@sign c h=>
  right;right
  refine ⟨rfl,?_,?_⟩
  ·rw [show (signT c).2.1=bs [c] from rfl,jJ]
   revert h
   have:∀n:Nat,n<256→UInt8.ofNat n∈fz→tE [UInt8.ofNat n]=none:=by decide+kernel
   intro h
   have hc:=this c.toNat (UInt8.toNat_lt c)
   rw [UInt8.ofNat_toNat] at hc
   exact hc h
  ·have hz:∀k:ByteArray,k.size≠1→(signT c).2.1≠k:=fun k hk e=>hk (by rw [←e];rfl)
   unfold jm
   rw [if_neg (hz _ (by decide)),if_neg (hz _ (by decide)),if_neg (hz _ (by decide))]
 |num _ _=>exact .inr (.inl rfl)
 |text _=>exact .inr (.inl rfl)
abbrev flatN (v:Dl.oT) (L:List Tok) (k:Nat) (ok:Bool):Int×Int×Int×Int×ByteArray×(List bH)×Int×Bool×Unit:=(v.1,v.2.1,v.2.2.1,v.2.2.2.1,v.2.2.2.2,L,(k:Int),ok,())
theorem JM      (L : List Tok) (hL : TL L) (k : Nat) (ok : Bool) (hk : k ≤ L.length) :
    ∃(v:Dl.oT) (k':Nat) (ok':Bool),bx.F (L,(k:Int),ok,())=some (flatN v L k' ok')∧Rf iG L k ok v k' ok'∧(ok'=true→k<k'):=by
  rw [bx.eq]
  unfold bx.B
  simp only []
  cases h:L.drop k with
  |nil=>
    have hn:∀s,tkb s L k=false:=fun s=>by unfold tkb;rw [h];rfl
    simp only [eG _ L hL k ok hk,hn,Option.bind_some,cond_false]
    rw [rN _ rfl L hL k ok hk,h]
    have ho:∀ws:List ByteArray,∀i,gH i ws []=none:=by
      intro ws
      induction ws with
      |nil=>intro i;rfl
      |cons w ws ih=>intro i;exact ih _
    simp only [ho,Option.bind_some,s6 L hL k ok hk,h]
    rw [show ((-1:Int)==(1:Int))=false from rfl]
    simp only [cond_false]
    rw [xG (-1) e0 (by intro x hx;cases hx)]
    simp only [Option.bind_some]
    refine ⟨(0,(0,v0)),k,false,rfl,⟨Nat.le_refl _,hk,fun _=>rfl,fun _=>?_⟩,fun h=>by cases h⟩
    rw [h];rfl
  |cons t r=>
    obtain ⟨h1,h2,h3⟩:=tO h
    have htk:∀s,tkb s L k=(decide (t.1≠1∧t.2.1=s)):=fun s=>by
      unfold tkb
      rw [h]
      simp only [tk]
      by_cases hh:t.1≠1∧t.2.1=s
      · rw [if_pos hh,decide_eq_true hh];rfl
      · rw [if_neg hh,decide_eq_false hh];rfl
    have hkk:∀b,kI b k=bif b then k+1 else k:=fun _=>rfl
    have good:∀(v:Dl.oT),iG (t::r)=some (v,r)→Rf iG L k ok v (k+1) ok∧(ok=true→k<k+1):=fun v hv=>by
      refine ⟨⟨by omega,h1,fun h=>h,fun e=>?_⟩,fun _=>by omega⟩
      rw [h,hv,e,h2];rfl
    by_cases hk1:t.1=1
    · have hn:∀s,tkb s L k=false:=fun s=>by rw [htk];exact decide_eq_false fun hh=>hh.1 hk1
      simp only [eG _ L hL k ok hk,hn,Option.bind_some,cond_false]
      rw [rN _ rfl L hL k ok hk,h,F8 t r hk1]
      simp only [Option.bind_some,s6 L hL k ok hk,h]
      rw [hk1]
      rw [show ((1:Int)==(1:Int))=true from rfl]
      simp only [cond_true]
      have hs:iG (t::r)=some ((1,(0,t.2.2)),r):=by simp [iG,tkL,tk,hk1]
      exact ⟨(1,(0,t.2.2)),k+1,ok,rfl,good _ hs⟩
    · by_cases c1 : t.2.1 = (⟨#[110,117,108,108]⟩ : ByteArray)
      · have hn:tkb (⟨#[110,117,108,108]⟩:ByteArray) L k=true:=by rw [htk];exact decide_eq_true ⟨hk1,c1⟩
        rw [eG _ L hL k ok hk,hn]
        simp only [Option.bind_some,cond_true]
        rw [eG _ L hL (k+1) ok h1]
        simp only [Option.bind_some]
        have hnull:tk (⟨#[110,117,108,108]⟩:ByteArray) (t::r)=some r:=by simp [tk,hk1,c1]
        cases hq:tkb (⟨#[63]⟩:ByteArray) L (k+1) with
        |true=>
          obtain ⟨w1,w2⟩:=gY hq
          simp only [cond_true]
          have hs:iG (t::r)=some ((10,(0,v0)),L.drop (k+1+1)):=by
            unfold iG
            simp only [tkL,hnull,Option.bind_some]
            rw [h2,w2]
            rfl
          refine ⟨(10,(0,v0)),k+1+1,ok,rfl,⟨by omega,by omega,fun h=>h,fun e=>?_⟩,fun _=>by omega⟩
          rw [h,hs,e];rfl
        |false=>
          have w2:=iq hq
          simp only [cond_false]
          have hs:iG (t::r)=some ((1,(0,v0)),r):=by
            unfold iG
            simp only [tkL,hnull,Option.bind_some]
            rw [←h2] at w2
            rw [w2]
            simp only [Option.bind_none,hk1,if_false,c1]
            rfl
          exact ⟨(1,(0,v0)),k+1,ok,rfl,good _ hs⟩
      · have hn1:tkb (⟨#[110,117,108,108]⟩:ByteArray) L k=false:=by rw [htk];exact decide_eq_false fun hh=>c1 hh.2
        have hnull:tk (⟨#[110,117,108,108]⟩:ByteArray) (t::r)=none:=by simp [tk,c1]
        have hstep:iG (t::r)=match yi t.2.1 with
            |some op=>some ((op,(0,v0)),r)
            |none=>match jm t.2.1 with
              |some v=>some ((1,(0,v)),r)
              |none=>(tE t.2.1.data.toList).map fun n=>((0,(n,v0)),r):=by
          unfold iG
          simp only [tkL,hnull,Option.bind_none,hk1,if_false]
          rfl
        rw [eG _ L hL k ok hk,hn1]
        simp only [Option.bind_some,cond_false]
        rw [eG _ L hL k ok hk]
        simp only [Option.bind_some]
        by_cases c2:t.2.1=(⟨#[116,114,117,101]⟩:ByteArray)
        · have hn:tkb (⟨#[116,114,117,101]⟩:ByteArray) L k=true:=by rw [htk];exact decide_eq_true ⟨hk1,c2⟩
          rw [hn]
          simp only [cond_true,ET,Option.bind_some]
          have hs:iG (t::r)=some ((1,(0,(1,(1,e0)))),r):=by rw [hstep,c2];rfl
          exact ⟨(1,(0,(1,(1,e0)))),k+1,ok,rfl,good _ hs⟩
        · have hn : tkb (⟨#[116,114,117,101]⟩ : ByteArray) L k = false := by rw [htk]; exact decide_eq_false fun hh => c2 hh.2
          rw [hn]
          simp only [cond_false]
          rw [eG _ L hL k ok hk]
          simp only [Option.bind_some]
          by_cases c3:t.2.1=(⟨#[102,97,108,115,101]⟩:ByteArray)
          · have hn:tkb (⟨#[102,97,108,115,101]⟩:ByteArray) L k=true:=by rw [htk];exact decide_eq_true ⟨hk1,c3⟩
            rw [hn]
            simp only [cond_true,ET,Option.bind_some]
            have hs:iG (t::r)=some ((1,(0,(1,(0,e0)))),r):=by rw [hstep,c3];rfl
            exact ⟨(1,(0,(1,(0,e0)))),k+1,ok,rfl,good _ hs⟩
          · have hn:tkb (⟨#[102,97,108,115,101]⟩:ByteArray) L k=false:=by rw [htk];exact decide_eq_false fun hh=>c3 hh.2
            rw [hn]
            simp only [cond_false]
            rw [rN _ rfl L hL k ok hk,h,H7 t r hk1]
            have hc:jm t.2.1=none:=by unfold jm;rw [if_neg c2,if_neg c3,if_neg c1]
            rw [hc] at hstep
            cases ho:yi t.2.1 with
            |some op=>
              rw [ho] at hstep
              simp only [Option.map_some,Option.bind_some]
              have e:(2:Int)+(op-2)=op:=by omega
              rw [e]
              exact ⟨(op,(0,v0)),k+1,ok,rfl,good _ hstep⟩
            |none=>
              rw [ho] at hstep
              simp only [Option.map_none,Option.bind_some,s6 L hL k ok hk,h]
              have b1:(t.1==(1:Int))=false:=by simp [hk1]
              rw [b1]
              simp only [cond_false]
              rcases JL (hL.2 t h3) with ⟨k0,hb⟩|k1|⟨k2,hcp,_⟩
              · rw [xG t.1 t.2.1 hb,if_pos k0]
                unfold A1
                simp only at hstep
                cases hcp:tE t.2.1.data.toList with
                |some n=>
                  rw [hcp] at hstep
                  simp only [Option.bind_some]
                  exact ⟨(0,(n,v0)),k+1,ok,rfl,good _ hstep⟩
                |none=>
                  rw [hcp] at hstep
                  simp only [Option.bind_some]
                  refine ⟨(0,(0,v0)),k+1,false,rfl,⟨by omega,h1,fun _=>rfl,fun e=>?_⟩,fun h=>by cases h⟩
                  rw [h,hstep];rfl
              · exact absurd k1 hk1
              · have k0:¬t.1=0:=by omega
                have hz:(t.1==(0:Int))=false:=by simp [k0]
                have hfin:∀b':ByteArray,(∀x∈b'.data.toList,x≠45)→True:=fun _ _=>trivial
                rw [H8 t.1 t.2.1 k0]
                simp only [Option.bind_some]
                simp only at hstep
                rw [hcp] at hstep
                refine ⟨(0,(0,v0)),k+1,false,rfl,⟨by omega,h1,fun _=>rfl,fun e=>?_⟩,fun h=>by cases h⟩
                rw [h,hstep];rfl
end Go.Proofs.Ytleadolkcmagfaa
end
section
namespace Go.Proofs.Ytleadolkcmagfaa
open Go Lv Go.Proofs Go.RowKit Go.Shelf Dl
theorem JN {S R:Type} {body:S→Option (S⊕R)} (P:Option R→Prop) (m:S→Nat) (I:S→Prop) (Q:S→R→Prop) (s:S) (hI:I s) (hP:∀r,Q s r→P (some r))
 (h:∀s,I s→(∃s',body s=some (.inl s')∧I s'∧m s'<m s∧∀r,Q s' r→Q s r)∨∃r,body s=some (.inr r)∧Q s r):P (bE body s):=by
 obtain ⟨r,h1,h2⟩:=ry m I Q h s hI
 rw [h1]
 exact hP r h2
theorem EU (L : List Tok) (hL : TL L) (k : Nat) (ok : Bool) (hk : k ≤ L.length) :
    ∃(v:List Dl.oT) (k':Nat) (ok':Bool),br.F (L,(k:Int),ok,())=some (L,(k':Int),ok',v,())∧Rf jy L k ok v k' ok':=by
  rw [br.eq]
  unfold br.B
  simp only [oo (⟨#[91]⟩:ByteArray) L hL k ok hk,Option.bind_some]
  have q1:=oS (s:=(⟨#[91]⟩:ByteArray)) hk
  refine JN (S:=(List ae)×(List bH)×Int×Bool×Unit) (R:=(List bH)×Int×Bool×(List ae)×Unit) (fun o=>∃(v:List Dl.oT) (k':Nat) (ok':Bool),o=some (L,(k':Int),ok',v,())∧Rf jy L k ok v k' ok')
    (m:=fun x=>(L.length-x.2.2.1.toNat)*2+(bif x.2.2.2.1 then 1 else 0))
    (I:=fun x=>x.2.1=L∧∃j:Nat,x.2.2.1=(j:Int)∧j≤L.length∧(x.2.2.2.1=true→x.1.length≤100)∧x.1.length≤101)
    (Q:=fun x r=>∃(v:List Dl.oT) (k':Nat) (ok':Bool),r=(L,(k':Int),ok',v,())∧x.2.2.1.toNat≤k'∧k'≤L.length∧(x.2.2.2.1=false→ok'=false)∧
      (x.2.2.2.1=true→(ip (100-x.1.length) (L.drop x.2.2.1.toNat)).map (fun y=>(x.1++y.1,y.2))=bif ok' then some (v,L.drop k') else none))
    _ ⟨rfl,_,rfl,q1.2,fun _=>Nat.zero_le _,Nat.zero_le _⟩ ?_ ?_
  · rintro r ⟨v,k',ok',e1,e2,e3,e4,e5⟩
    rw [e1]
    simp only [Int.toNat_natCast] at e2 e5
    refine ⟨v,k',ok',rfl,⟨Nat.le_trans q1.1 e2,e3,fun h=>e4 (by rw [h];rfl),fun h=>?_⟩⟩
    unfold jy
    cases hb:tkb (⟨#[91]⟩:ByteArray) L k with
    |false=>
      rw [iq hb]
      have:=e4 (by rw [hb,Bool.and_false])
      rw [this]
      rfl
    |true=>
      rw [(gY hb).2]
      rw [hb] at e5
      have:=e5 (by rw [h];rfl)
      simp only [Option.bind_some]
      rw [←this]
      show ip 100 (L.drop (k+1))=(ip 100 (L.drop (k+1))).map fun y=>([]++y.1,y.2)
      cases ip 100 (L.drop (k+1))<;>rfl
  · rintro ⟨acc,a,b,c,⟨⟩⟩ ⟨ha,j,hj,hjl,hacc,hacc2⟩
    simp only at ha hj hacc hacc2
    subst ha
    subst hj
    simp only [Int.toNat_natCast]
    cases c with
    |false=>
      right
      exact ⟨_,rfl,acc,j,false,rfl,Nat.le_refl _,hjl,fun _=>rfl,fun h=>by cases h⟩
    |true=>
      have hac:=hacc rfl
      simp only [cond_true,eG (⟨#[93]⟩:ByteArray) a hL j true hjl,Option.bind_some]
      have q2:=oS (s:=(⟨#[93]⟩:ByteArray)) hjl
      cases hb:tkb (⟨#[93]⟩:ByteArray) a j with
      |true=>
        right
        obtain ⟨s1,s2⟩:=gY hb
        refine ⟨_,rfl,acc,j+1,true,rfl,by omega,s1,nofun,fun _=>?_⟩
        rw [jF,s2]
        simp only [Option.map_some,List.append_nil]
        rfl
      | false =>
        left
        have s2:=iq hb
        simp only [Bool.not_false,cond_true]
        have hkf:kI false j=j:=rfl
        rw [hkf]
        obtain ⟨v,k1,o1,g1,g2,g3⟩:=JM a hL j true hjl
        rw [g1]
        simp only [Option.bind_some]
        have hle:=g2.le
        have hhi:=g2.hi
        have d2:Nat.ble (acc.length+ [(v.1,(v.2.1,(v.2.2.1,(v.2.2.2.1,v.2.2.2.2))))].length) 2932031007402=true:=by
          rw [Nat.ble_eq];simp only [List.length_cons,List.length_nil];omega
        rw [d2]
        simp only [cond_true]
        have hv:(v.1,(v.2.1,(v.2.2.1,(v.2.2.2.1,v.2.2.2.2))))=v:=rfl
        rw [hv]
        have hlen:(acc++ [v]).length=acc.length+1:=by simp
        by_cases h100:acc.length=100
        · have d3:decide (((acc++ [v]).length:Int)>(100:Int))=true:=by rw [hlen,decide_eq_true_eq];omega
          rw [d3]
          simp only [cond_true]
          refine ⟨_,rfl,⟨rfl,k1,rfl,hhi,nofun,by rw [hlen];omega⟩,?_,?_⟩
          · simp only [Int.toNat_natCast,cond_false,cond_true];omega
          · rintro r ⟨w,k2,o2,f1,f2,f3,f4,f5⟩
            simp only [Int.toNat_natCast] at f2
            have ho:=f4 rfl
            refine ⟨w,k2,o2,f1,by omega,f3,nofun,fun _=>?_⟩
            rw [jF,s2,h100,ho]
            rfl
        · have d3:decide (((acc++ [v]).length:Int)>(100:Int))=false:=by rw [hlen,decide_eq_false_iff_not];omega
          rw [d3]
          simp only [cond_false]
          refine ⟨_,rfl,⟨rfl,k1,rfl,hhi,fun h=>by rw [hlen];omega,by rw [hlen];omega⟩,?_,?_⟩
          · simp only [Int.toNat_natCast,cond_true]
            cases o1 with
            |false=>simp only [cond_false];omega
            |true=>have:=g3 rfl;simp only [cond_true];omega
          · rintro r ⟨w,k2,o2,f1,f2,f3,f4,f5⟩
            simp only [Int.toNat_natCast] at f2 f5
            refine ⟨w,k2,o2,f1,by omega,f3,nofun,fun _=>?_⟩
            have hn:100-acc.length=(100-(acc++ [v]).length)+1:=by rw [hlen];omega
            rw [jF,s2,hn]
            simp only
            rw [g2.yes rfl]
            cases o1 with
            |false=>rw [f4 rfl];rfl
            |true=>
              simp only [cond_true,Option.bind_some]
              rw [←f5 rfl]
              cases ip (100-(acc++ [v]).length) (a.drop k1) with
              |none=>rfl
              |some y=>simp
end Go.Proofs.Ytleadolkcmagfaa
end
section
namespace Go.Proofs.Ytleadolkcmagfaa
open Go Lv Go.Proofs Go.RowKit Go.Shelf Dl
def kB {α : Type} (s : ByteArray) (p : List Tok → Option (α × List Tok)) : Nat → List Tok → Option (List α × List Tok)
  |n,l=>match tk s l with
    |none=>some ([],l)
    |some r=>match n with
      |0=>none
      |n+1=>(p r).bind fun x=>(kB s p n x.2).map fun y=>(x.1::y.1,y.2)
theorem iT {α:Type} (s:ByteArray) (p:List Tok→Option (α×List Tok)) (n:Nat) (l:List Tok):kB s p n l=match tk s l with
 |none=>some ([],l)
 |some r=>match n with
  |0=>none
  |n+1=>(p r).bind fun x=>(kB s p n x.2).map fun y=>(x.1::y.1,y.2):=by rw [kB.eq_def]
theorem JO {α:Type} (p:List Tok→Option (α×List Tok)):∀(n:Nat) (l:List Tok),nG p n l=kB (⟨#[44]⟩:ByteArray) p n l:=by
 intro n
 induction n with
 |zero=>intro l;rw [iT];unfold nG;cases tk (⟨#[44]⟩:ByteArray) l<;>rfl
 |succ n ih=>
  intro l
  rw [iT]
  unfold nG
  cases tk (⟨#[44]⟩:ByteArray) l with
  |none=>rfl
  |some r=>
   simp only
   rw [qq]
   cases p r with
   |none=>rfl
   |some x=>simp only [Option.bind_some];rw [ih]
theorem xH {α:Type} (p:List Tok→Option (α×List Tok)) (n:Nat) (l:List Tok):lA p n l=(p l).bind fun x=>(kB (⟨#[44]⟩:ByteArray) p n x.2).map fun y=>(x.1::y.1,y.2):=by
 rw [qq]
 simp only [JO]
theorem F9:∀(n:Nat) (l:List Tok),ij n l=kB (⟨#[99,104,101,99,107]⟩:ByteArray) jy n l:=by
 intro n
 induction n with
 |zero=>intro l;rw [iT,rK];cases tk (⟨#[99,104,101,99,107]⟩:ByteArray) l<;>rfl
 |succ n ih=>
  intro l
  rw [iT,rK]
  cases tk (⟨#[99,104,101,99,107]⟩:ByteArray) l with
  |none=>rfl
  |some r=>
   simp only
   cases jy r with
   |none=>rfl
   |some x=>simp only [Option.bind_some];rw [ih]
theorem tP {α : Type} (s : ByteArray) (p : List Tok → Option (α × List Tok)) : ∀ (m n : Nat),m ≤ n → ∀ l,kB s p m l = (kB s p n l).bind fun x => if x.1.length ≤ m then some x else none := by
  intro m
  induction m with
  |zero=>
    intro n _ l
    rw [iT,iT s p n]
    cases tk s l with
    |none=>rfl
    |some r=>
      cases n with
      |zero=>rfl
      |succ n=>
        simp only
        cases p r with
        |none=>rfl
        |some x=>
          simp only [Option.bind_some]
          cases kB s p n x.2 with
          |none=>rfl
          |some y=>simp
  |succ m ih=>
    intro n hn l
    cases n with
    |zero=>omega
    |succ n=>
      rw [iT,iT s p (n+1)]
      cases tk s l with
      |none=>simp
      |some r=>
        simp only
        cases p r with
        |none=>rfl
        |some x=>
          simp only [Option.bind_some]
          rw [ih n (by omega)]
          cases kB s p n x.2 with
          |none=>rfl
          |some y=>
            simp only [Option.bind_some,Option.map_some,List.length_cons]
            by_cases h:y.1.length≤m
            · rw [if_pos h,if_pos (by omega)];rfl
            · rw [if_neg h,if_neg (by omega)];rfl
theorem Ia {α S R : Type} {body : S → Option (S ⊕ R)} (s : ByteArray) (p : List Tok → Option (α × List Tok)) (L : List Tok) (mk : Nat → Bool → List α → S) (fin : Nat → Bool → List α → R)
    (h0:∀k acc,k≤L.length→body (mk k false acc)=some (.inr (fin k false acc)))
    (h1:∀k acc,k≤L.length→tkb s L k=false→body (mk k true acc)=some (.inr (fin k true acc)))
    (h2:∀k acc,acc.length≤k+1→k<L.length→tkb s L k=true→∃v k' o',Rf p L (k+1) true v k' o'∧body (mk k true acc)=some (.inl (mk k' o' (acc++ [v])))):
    ∀ (n k : Nat) (ok : Bool) (acc : List α),k ≤ L.length → L.length - k ≤ n → acc.length ≤ k + 1 →
      ∃ (vs : List α) (k' : Nat) (ok' : Bool),bE body (mk k ok acc) = some (fin k' ok' (acc ++ vs)) ∧ k ≤ k' ∧ k' ≤ L.length ∧ (ok = false → ok' = false) ∧
        (ok=true→kB s p n (L.drop k)=bif ok' then some (vs,L.drop k') else none):=by
  have base:∀(n k:Nat) (acc:List α),k≤L.length→tkb s L k=false→∃(vs:List α) (k':Nat) (ok':Bool),bE body (mk k true acc)=some (fin k' ok' (acc++vs))∧k≤k'∧k'≤L.length∧(true=false→ok'=false)∧
        (true=true→kB s p n (L.drop k)=bif ok' then some (vs,L.drop k') else none):=by
    intro n k acc hk hb
    refine ⟨[],k,true,?_,Nat.le_refl _,hk,nofun,fun _=>?_⟩
    · rw [ej,h1 k acc hk hb,List.append_nil]
    · rw [iT,iq hb];rfl
  have bad:∀(n k:Nat) (acc:List α),k≤L.length→∃(vs:List α) (k':Nat) (ok':Bool),bE body (mk k false acc)=some (fin k' ok' (acc++vs))∧k≤k'∧k'≤L.length∧(false=false→ok'=false)∧
        (false=true→kB s p n (L.drop k)=bif ok' then some (vs,L.drop k') else none):=by
    intro n k acc hk
    refine ⟨[],k,false,?_,Nat.le_refl _,hk,fun _=>rfl,nofun⟩
    rw [ej,h0 k acc hk,List.append_nil]
  intro n
  induction n with
  |zero=>
    intro k ok acc hk hn ha
    cases ok with
    |false=>exact bad 0 k acc hk
    |true=>
      refine base 0 k acc hk ?_
      unfold tkb
      rw [List.drop_eq_nil_of_le (by omega)]
      rfl
  |succ n ih=>
    intro k ok acc hk hn ha
    cases ok with
    |false=>exact bad _ k acc hk
    |true=>
      cases hb:tkb s L k with
      |false=>exact base _ k acc hk hb
      |true=>
        obtain ⟨s1,s2⟩:=gY hb
        obtain ⟨v,k1,o1,r1,e1⟩:=h2 k acc ha s1 hb
        have c1:=r1.le
        obtain ⟨vs,k',ok',g1,g2,g3,g4,g5⟩:=ih k1 o1 (acc++ [v]) r1.hi (by omega) (by simp;omega)
        refine ⟨v::vs,k',ok',?_,by omega,g3,nofun,fun _=>?_⟩
        · rw [ej,e1]
          simp only
          rw [g1]
          simp
        · rw [iT,s2]
          simp only
          rw [r1.yes rfl]
          cases o1 with
          |false=>rw [g4 rfl];rfl
          |true=>
            simp only [cond_true,Option.bind_some]
            rw [g5 rfl]
            cases ok'<;>rfl
theorem CK {α S R Q:Type} {body:S→Option (S⊕R)} {K:R→Option Q} (P:Option Q→Prop) (s:ByteArray) (p:List Tok→Option (α×List Tok)) (L:List Tok) (mk:Nat→Bool→List α→S) (fin:Nat→Bool→List α→R)
 (n k:Nat) (ok:Bool) (acc:List α) (hk:k≤L.length) (hn:L.length-k≤n) (ha:acc.length≤k+1)
 (h0:∀k acc,k≤L.length→body (mk k false acc)=some (.inr (fin k false acc)))
 (h1:∀k acc,k≤L.length→tkb s L k=false→body (mk k true acc)=some (.inr (fin k true acc)))
 (h2:∀k acc,acc.length≤k+1→k<L.length→tkb s L k=true→∃v k' o',Rf p L (k+1) true v k' o'∧body (mk k true acc)=some (.inl (mk k' o' (acc++ [v]))))
 (hP:∀(vs:List α) (k':Nat) (ok':Bool),k≤k'→k'≤L.length→(ok=false→ok'=false)→(ok=true→kB s p n (L.drop k)=bif ok' then some (vs,L.drop k') else none)→P (K (fin k' ok' (acc++vs)))):
 P (Option.bind (bE body (mk k ok acc)) K):=by
 obtain ⟨vs,k',ok',g1,g2,g3,g4,g5⟩:=Ia s p L mk fin h0 h1 h2 n k ok acc hk hn ha
 rw [g1]
 exact hP vs k' ok' g2 g3 g4 g5
theorem DV (s:ByteArray) (L:List Tok) (k:Nat):tk s (L.drop k)=bif tkb s L k then some (L.drop (k+1)) else none:=by
 cases h:tkb s L k with
 |true=>exact (gY h).2
 |false=>exact iq h
theorem Ib (      L : List Tok) (hL : TL L) (k : Nat) (ok : Bool) (hk : k ≤ L.length) :
    ∃(v:Tab) (k':Nat) (ok':Bool),bn.F (L,(k:Int),ok,())=some (v.1,L,(k':Int),ok',v.2.1,v.2.2,())∧Rf ll L k ok v k' ok':=by
  rw [bn.eq]
  unfold bn.B
  simp only []
  have hlen:=hL.1
  obtain ⟨v1,k1,o1,e1,r1⟩:=qt L hL k ok hk
  rw [e1]
  simp only [Option.bind_some]
  rw [oo (⟨#[40]⟩:ByteArray) L hL k1 o1 r1.hi]
  simp only [Option.bind_some]
  have q2:=oS (s:=(⟨#[40]⟩:ByteArray)) r1.hi
  obtain ⟨v3,k3,o3,e3,r3⟩:=z7 L hL (kI (tkb (⟨#[40]⟩:ByteArray) L k1) k1) (o1&&tkb (⟨#[40]⟩:ByteArray) L k1) q2.2
  rw [e3]
  simp only [Option.bind_some]
  have hv3:(v3.1,(v3.2.1,(v3.2.2.1,(v3.2.2.2.1,(v3.2.2.2.2.1,v3.2.2.2.2.2)))))=v3:=rfl
  rw [show Nat.ble [(v3.1,(v3.2.1,(v3.2.2.1,(v3.2.2.2.1,(v3.2.2.2.2.1,v3.2.2.2.2.2)))))].length 2513169434916=true from rfl,hv3]
  simp only [cond_true]
  have c1:=r1.le
  have c3:=r3.le
  refine CK (α:=Col) (S:=(List bH)×Int×Bool×ByteArray×(List ba)×(List (List ae))×Unit) (fun o=>∃(v:Tab) (k':Nat) (ok':Bool),o=some (v.1,L,(k':Int),ok',v.2.1,v.2.2,())∧Rf ll L k ok v k' ok') (⟨#[44]⟩:ByteArray) gQ L
    (fun k ok acc=>(L,(k:Int),ok,v1,acc,[],())) (fun k ok acc=> .inl (L,(k:Int),ok,v1,acc,[],())) (L.length+100) k3 o3 [v3] r3.hi (by omega) (by simp) ?_ ?_ ?_ ?_
  · intro k acc hk
    rfl
  · intro k acc hk hb
    simp only [cond_true,eG _ L hL k true hk,Option.bind_some,hb,cond_false]
  · intro k acc ha hk hb
    obtain ⟨v,k',o',e,r⟩:=z7 L hL (k+1) true hk
    refine ⟨v,k',o',r,?_⟩
    have hkI:kI true k=k+1:=rfl
    simp only [cond_true,eG _ L hL k true (Nat.le_of_lt hk),Option.bind_some,hb,hkI,e]
    have hv:(v.1,(v.2.1,(v.2.2.1,(v.2.2.2.1,(v.2.2.2.2.1,v.2.2.2.2.2)))))=v:=rfl
    rw [hv]
    have d2:Nat.ble (acc.length+ [v].length) 2513169434916=true:=by
      rw [Nat.ble_eq];simp only [List.length_cons,List.length_nil];omega
    rw [d2]
    rfl
  intro vs k4 o4 g1 g2 g3 g4
  simp only []
  rw [oo (⟨#[41]⟩:ByteArray) L hL k4 o4 g2]
  simp only [Option.bind_some]
  have q5:=oS (s:=(⟨#[41]⟩:ByteArray)) g2
  refine CK (α:=List Dl.oT) (S:=(List bH)×Int×Bool×ByteArray×(List ba)×(List (List ae))×Unit) (fun o=>∃(v:Tab) (k':Nat) (ok':Bool),o=some (v.1,L,(k':Int),ok',v.2.1,v.2.2,())∧Rf ll L k ok v k' ok') (⟨#[99,104,101,99,107]⟩:ByteArray) jy L
    (fun k ok acc=>(L,(k:Int),ok,v1,[v3]++vs,acc,())) (fun k ok acc=> .inl (L,(k:Int),ok,v1,[v3]++vs,acc,())) (L.length+100) (kI (tkb (⟨#[41]⟩:ByteArray) L k4) k4) (o4&&tkb (⟨#[41]⟩:ByteArray) L k4) [] q5.2 (by omega) (by simp) ?_ ?_ ?_ ?_
  · intro k acc hk
    rfl
  · intro k acc hk hb
    simp only [cond_true,eG _ L hL k true hk,Option.bind_some,hb,cond_false]
  · intro k acc ha hk hb
    obtain ⟨v,k',o',e,r⟩:=EU L hL (k+1) true hk
    refine ⟨v,k',o',r,?_⟩
    have hkI:kI true k=k+1:=rfl
    simp only [cond_true,eG _ L hL k true (Nat.le_of_lt hk),Option.bind_some,hb,hkI,e]
    have d2:Nat.ble (acc.length+ [v].length) 5864062014805=true:=by
      rw [Nat.ble_eq];simp only [List.length_cons,List.length_nil];omega
    rw [d2]
    rfl
  intro cs k6 o6 w1 w2 w3 w4
  simp only [List.nil_append,List.singleton_append]
  have hno:ok=false→o6=false:=fun h=>w3 (by rw [g3 (r3.no (by rw [r1.no h];rfl))];rfl)
  have hle:k≤k6:=by omega
  have hcol:decide (((v3::vs).length:Int)>(40:Int))= !decide (vs.length≤39):=by
    by_cases h:vs.length≤39
    · rw [decide_eq_true h];simp only [Bool.not_true,decide_eq_false_iff_not,List.length_cons];omega
    · rw [decide_eq_false h];simp only [Bool.not_false,decide_eq_true_eq,List.length_cons];omega
  have hchk:decide ((cs.length:Int)>(40:Int))= !decide (cs.length≤40):=by
    by_cases h:cs.length≤40
    · rw [decide_eq_true h];simp only [Bool.not_true,decide_eq_false_iff_not];omega
    · rw [decide_eq_false h];simp only [Bool.not_false,decide_eq_true_eq];omega
  refine ⟨(v1,(v3::vs,cs)),k6,(o6&&decide (vs.length≤39))&&decide (cs.length≤40),?_,hle,w2,fun h=>by rw [hno h];rfl,fun h=>?_⟩
  · rw [hcol,hchk]
    cases decide (vs.length≤39)<;>cases decide (cs.length≤40)<;>simp
  · unfold ll
    rw [r1.yes h]
    cases o1 with
    |false=>
      have:o6=false:=w3 (by rw [g3 (r3.no rfl)];rfl)
      rw [this];rfl
    |true=>
      simp only [cond_true,Option.bind_some,DV]
      cases hb1:tkb (⟨#[40]⟩:ByteArray) L k1 with
      |false=>
        have:o6=false:=w3 (by rw [g3 (r3.no (by rw [hb1];rfl))];rfl)
        rw [this];rfl
      |true=>
        rw [hb1] at r3
        simp only [cond_true,Option.bind_some,xH]
        have r3y:=r3.yes rfl
        have hkI:kI true k1=k1+1:=rfl
        rw [hkI] at r3y
        rw [r3y]
        cases o3 with
        |false=>
          have:o6=false:=w3 (by rw [g3 rfl];rfl)
          rw [this];rfl
        |true=>
          simp only [cond_true,Option.bind_some]
          rw [tP (⟨#[44]⟩:ByteArray) gQ 39 (L.length+100) (by omega),g4 rfl]
          cases o4 with
          |false=>
            have:o6=false:=w3 rfl
            rw [this];rfl
          |true=>
            simp only [cond_true,Option.bind_some]
            by_cases hl:vs.length≤39
            · rw [if_pos hl,decide_eq_true hl]
              simp only [Option.map_some,Option.bind_some,Bool.and_true,DV]
              cases hb4:tkb (⟨#[41]⟩:ByteArray) L k4 with
              |false=>
                have:o6=false:=w3 (by rw [hb4];rfl)
                rw [this];rfl
              |true=>
                have w4':=w4 (by rw [hb4];rfl)
                have hkI4:kI (tkb (⟨#[41]⟩:ByteArray) L k4) k4=k4+1:=by rw [hb4];rfl
                rw [hkI4] at w4'
                simp only [cond_true,Option.bind_some,F9]
                rw [tP (⟨#[99,104,101,99,107]⟩:ByteArray) jy 40 (L.length+100) (by omega),w4']
                cases o6 with
                |false=>rfl
                |true=>
                  simp only [cond_true,Option.bind_some,Bool.true_and]
                  by_cases hc:cs.length≤40
                  · rw [if_pos hc,decide_eq_true hc];rfl
                  · rw [if_neg hc,decide_eq_false hc];rfl
            · rw [if_neg hl,decide_eq_false hl,Bool.and_false,Bool.false_and];rfl
end Go.Proofs.Ytleadolkcmagfaa
end
section
namespace Go.Proofs.Ytleadolkcmagfaa
open Go Lv Go.Proofs Go.RowKit Go.Shelf Dl
theorem Ic (L:List Tok) (hL:TL L) (k:Nat) (ok:Bool) (hk:k≤L.length):
 ∃(v:Dl.Agg) (k':Nat) (ok':Bool),bt.F (L,(k:Int),ok,())=some (v.1,v.2,L,(k':Int),ok',())∧Rf mJ L k ok v k' ok':=by
 rw [bt.eq]
 unfold bt.B
 simp only []
 obtain ⟨v1,k1,o1,e1,r1,g1,g2⟩:=A0 fns (by decide) L hL k ok hk
 have c1:=r1.le
 rw [e1]
 simp only [Option.bind_some,AV]
 by_cases h0:v1=0
 ·rw [decide_eq_true h0]
  simp only [Bool.not_true,cond_false]
  refine ⟨(v1,0),k1,o1,rfl,⟨c1,r1.hi,r1.no,fun h=>?_⟩⟩
  unfold mJ
  rw [r1.yes h]
  cases o1 with
  |false=>rfl
  |true=>simp only [cond_true,Option.bind_some,if_pos h0];rw [h0]
 ·rw [decide_eq_false h0]
  simp only [Bool.not_false,cond_true]
  obtain ⟨v2,k2,o2,e2,r2⟩:=xE L hL k1 o1 r1.hi
  have c2:=r2.le
  rw [e2]
  simp only [Option.bind_some]
  refine ⟨(v1,v2),k2,o2,rfl,⟨by omega,r2.hi,fun h=>r2.no (r1.no h),fun h=>?_⟩⟩
  unfold mJ
  rw [r1.yes h]
  cases o1 with
  |false=>rw [r2.no rfl];rfl
  |true=>
   simp only [cond_true,Option.bind_some,if_neg h0]
   rw [r2.yes rfl]
   cases o2<;>rfl
abbrev VS:Type:=(List bH)×Int×Bool×ByteArray×ByteArray×ByteArray×Int×Int×Bool×(List ae)×(List Int)×(List ct)×Unit
theorem JP {R : Type} (n1 n3 : ByteArray) (L : List Tok) (hL : TL L) (k : Nat) (ok : Bool) (hk : k ≤ L.length) :
    ∃(j:ByteArray×Dl.Agg) (k':Nat) (ok':Bool),(Option.bind (ax.F ((⟨#[106,111,105,110]⟩:ByteArray),L,(k:Int),ok,())) fun y4=>
  (bif y4.1 then
  Option.bind (bd.F (y4.2.1,y4.2.2.1,y4.2.2.2.1,())) fun y5=>
  Option.bind (aX.F ((⟨#[111,110]⟩:ByteArray),y5.2.1,y5.2.2.1,y5.2.2.2.1,())) fun y6=>
  Option.bind (bg.F (y6.1,y6.2.1,y6.2.2.1,())) fun y7=>
  Option.bind (aX.F ((⟨#[61]⟩:ByteArray),y7.2.1,y7.2.2.1,y7.2.2.2.1,())) fun y8=>
  Option.bind (bg.F (y8.1,y8.2.1,y8.2.2.1,())) fun y9=>
  some (.inl (y9.2.1,y9.2.2.1,y9.2.2.2.1,n1,n3,y5.1,y7.1,y9.1,false,[],[],[],()))
  else
  some (.inl (y4.2.1,y4.2.2.1,y4.2.2.2.1,n1,n3,(⟨#[]⟩:ByteArray),(0:Int),(0:Int),false,[],[],[],()))):Option (VS⊕R))=
      some (.inl (L,(k':Int),ok',n1,n3,j.1,j.2.1,j.2.2,false,[],[],[],()))∧Rf mz L k ok j k' ok':=by
  rw [eG (⟨#[106,111,105,110]⟩:ByteArray) L hL k ok hk]
  simp only [Option.bind_some]
  cases hb:tkb (⟨#[106,111,105,110]⟩:ByteArray) L k with
  |false=>
    simp only [cond_false]
    refine ⟨(e0,(0,0)),k,ok,rfl,⟨Nat.le_refl _,hk,fun h=>h,fun h=>?_⟩⟩
    unfold mz
    rw [iq hb,h]
    rfl
  |true=>
    obtain ⟨s1,s2⟩:=gY hb
    simp only [cond_true]
    obtain ⟨v1,k1,o1,e1,r1⟩:=qt L hL (k+1) ok s1
    have c1:=r1.le
    rw [e1]
    simp only [Option.bind_some]
    rw [oo (⟨#[111,110]⟩:ByteArray) L hL k1 o1 r1.hi]
    simp only [Option.bind_some]
    have q2:=oS (s:=(⟨#[111,110]⟩:ByteArray)) r1.hi
    obtain ⟨v2,k2,o2,e2,r2⟩:=xE L hL _ (o1&&tkb (⟨#[111,110]⟩:ByteArray) L k1) q2.2
    have c2:=r2.le
    rw [e2]
    simp only [Option.bind_some]
    rw [oo (⟨#[61]⟩:ByteArray) L hL k2 o2 r2.hi]
    simp only [Option.bind_some]
    have q3:=oS (s:=(⟨#[61]⟩:ByteArray)) r2.hi
    obtain ⟨v3,k3,o3,e3,r3⟩:=xE L hL _ (o2&&tkb (⟨#[61]⟩:ByteArray) L k2) q3.2
    have c3:=r3.le
    rw [e3]
    simp only [Option.bind_some]
    have n23:o2=false→o3=false:=fun h=>r3.no (by rw [h];rfl)
    have n12:o1=false→o3=false:=fun h=>n23 (r2.no (by rw [h];rfl))
    refine ⟨(v1,(v2,v3)),k3,o3,rfl,⟨by omega,r3.hi,fun h=>n12 (r1.no h),fun h=>?_⟩⟩
    unfold mz
    rw [s2]
    simp only
    rw [r1.yes h]
    cases o1 with
    |false=>rw [n12 rfl];rfl
    |true=>
      simp only [cond_true,Option.bind_some,DV]
      cases hb2:tkb (⟨#[111,110]⟩:ByteArray) L k1 with
      |false=>rw [n23 (r2.no (by rw [hb2];rfl))];rfl
      |true=>
        simp only [cond_true,Option.bind_some]
        have y2:=r2.yes (by rw [hb2];rfl)
        have hk2:kI (tkb (⟨#[111,110]⟩:ByteArray) L k1) k1=k1+1:=by rw [hb2];rfl
        rw [hk2] at y2
        rw [y2]
        cases o2 with
        |false=>rw [n23 rfl];rfl
        |true=>
          simp only [cond_true,Option.bind_some,DV]
          cases hb3:tkb (⟨#[61]⟩:ByteArray) L k2 with
          |false=>rw [r3.no (by rw [hb3];rfl)];rfl
          |true=>
            simp only [cond_true,Option.bind_some]
            have y3:=r3.yes (by rw [hb3];rfl)
            have hk3:kI (tkb (⟨#[61]⟩:ByteArray) L k2) k2=k2+1:=by rw [hb3];rfl
            rw [hk3] at y3
            rw [y3]
            cases o3<;>rfl
theorem Ie {R:Type} (a1 a2 a3:ByteArray) (a4 a5:Int) (a7:Bool) (a8:List Int) (a9:List ct) (L:List Tok) (hL:TL L) (k:Nat) (ok:Bool) (hk:k≤L.length):
 ∃(w:List Dl.oT) (k':Nat) (ok':Bool),(Option.bind (ax.F ((⟨#[119,104,101,114,101]⟩:ByteArray),L,(k:Int),ok,())) fun y11=>
 (bif y11.1 then
 Option.bind (br.F (y11.2.1,y11.2.2.1,y11.2.2.2.1,())) fun y12=>
 some (.inl (y12.1,y12.2.1,y12.2.2.1,a1,a2,a3,a4,a5,a7,y12.2.2.2.1,a8,a9,()))
 else
 some (.inl (y11.2.1,y11.2.2.1,y11.2.2.2.1,a1,a2,a3,a4,a5,a7,[],a8,a9,()))):Option (VS⊕R))=
  some (.inl (L,(k':Int),ok',a1,a2,a3,a4,a5,a7,w,a8,a9,()))∧Rf jD L k ok w k' ok':=by
 rw [eG (⟨#[119,104,101,114,101]⟩:ByteArray) L hL k ok hk]
 simp only [Option.bind_some]
 cases hb:tkb (⟨#[119,104,101,114,101]⟩:ByteArray) L k with
 |false=>
  simp only [cond_false]
  refine ⟨[],k,ok,rfl,⟨Nat.le_refl _,hk,fun h=>h,fun h=>?_⟩⟩
  unfold jD
  rw [iq hb,h]
  rfl
 |true=>
  obtain ⟨s1,s2⟩:=gY hb
  simp only [cond_true]
  obtain ⟨v1,k1,o1,e1,r1⟩:=EU L hL (k+1) ok s1
  have c1:=r1.le
  rw [e1]
  simp only [Option.bind_some]
  refine ⟨v1,k1,o1,rfl,⟨by omega,r1.hi,r1.no,fun h=>?_⟩⟩
  unfold jD
  rw [s2]
  exact r1.yes h
def z8 (n:Nat) (l:List Tok):Option (List Int×List Tok):=if l=[]∨(tk (⟨#[103,114,111,117,112]⟩:ByteArray) l).isSome then some ([],l) else lA kc n l
def DW (n:Nat) (l:List Tok):Option ((Bool×List Dl.Agg)×List Tok):=match tk (⟨#[103,114,111,117,112]⟩:ByteArray) l with
 |none=>some ((false,[]),l)
 |some r=>if r=[] then some ((true,[]),r) else (lA mJ n r).map fun x=>((true,x.1),x.2)
theorem CL {α:Type} (p:List Tok→Option (α×List Tok)) (m n:Nat) (h:m≤n) (l:List Tok):lA p m l=(lA p n l).bind fun x=>if x.1.length≤m+1 then some x else none:=by
 rw [xH,xH]
 cases p l with
 |none=>rfl
 |some x=>
  simp only [Option.bind_some]
  rw [tP (⟨#[44]⟩:ByteArray) p m n h]
  cases kB (⟨#[44]⟩:ByteArray) p n x.2 with
  |none=>rfl
  |some y=>
   simp only [Option.bind_some,Option.map_some,List.length_cons]
   by_cases hl:y.1.length≤m
   ·rw [if_pos hl,if_pos (by omega)];rfl
   ·rw [if_neg hl,if_neg (by omega)];rfl
theorem JQ (n:Nat) (hn:39≤n) (l:List Tok):rf l=(z8 n l).bind fun x=>if x.1.length≤40 then some x else none:=by
 unfold rf z8
 by_cases h:l=[]∨(tk (⟨#[103,114,111,117,112]⟩:ByteArray) l).isSome
 ·rw [if_pos h,if_pos h];rfl
 ·rw [if_neg h,if_neg h,CL kc 39 n hn]
theorem Ig (n : Nat) (hn : 39 ≤ n) (l : List Tok) : tF l = (DW n l).bind fun x => if x.1.2.length ≤ 40 then some x else none := by
  unfold tF DW
  cases tk (⟨#[103,114,111,117,112]⟩:ByteArray) l with
  |none=>rfl
  |some r=>
    simp only
    by_cases h:r=[]
    · rw [if_pos h,if_pos h];rfl
    · rw [if_neg h,if_neg h,CL mJ 39 n hn]
      cases lA mJ n r with
      |none=>rfl
      |some x=>
        simp only [Option.bind_some,Option.map_some]
        by_cases hl:x.1.length≤39+1
        · rw [if_pos hl,if_pos hl];rfl
        · rw [if_neg hl,if_neg hl];rfl
end Go.Proofs.Ytleadolkcmagfaa
end
section
namespace Go.Proofs.Ytleadolkcmagfaa
open Go Lv Go.Proofs Go.RowKit Go.Shelf Dl
theorem ltl {L:List Tok} {k:Nat}:decide ((k:Int)<(L.length:Int))= !decide (L.drop k=[]):=by
 have h:L.drop k=[]↔L.length≤k:=List.drop_eq_nil_iff
 by_cases hk:L.length≤k
 ·rw [decide_eq_true (h.2 hk),Bool.not_true,decide_eq_false_iff_not];omega
 ·rw [decide_eq_false (fun e=>hk (h.1 e)),Bool.not_false,decide_eq_true_eq];omega
theorem JR {R : Type} (a1 a2 a3 : ByteArray) (a4 a5 : Int) (a7 : Bool) (a6 : List ae) (L : List Tok) (hL : TL L) (k : Nat) (ok : Bool) (hk : k ≤ L.length) :
    ∃(w:List Int) (k':Nat) (ok':Bool),(
  Option.bind (
  (bif (decide ((k:Int)<(L.length:Int))) then
  Option.bind (bF.F ((⟨#[103,114,111,117,112]⟩:ByteArray),L,(k:Int),ok,())) fun y15=>
  some (.inl ((!y15.1),y15.2.1,y15.2.2.1,y15.2.2.2.1,()))
  else
  some (.inl (false,L,(k:Int),ok,()))):Option ((Bool×(List bH)×Int×Bool×Unit)⊕(VS⊕R))) fun r16=>match r16 with
  | .inl (x52_16,o0_0_0_16,o0_0_1_16,o0_0_2_16,_)=>
  ((bif x52_16 then
  Option.bind (bg.F (o0_0_0_16,o0_0_1_16,o0_0_2_16,())) fun y17=>
  bif (Nat.ble (([]:List Int).length+ [y17.1].length) 17592186044416) then
  bE (S:=(List bH)×Int×Bool×ByteArray×ByteArray×ByteArray×Int×Int×Bool×(List ae)×(List Int)×(List ct)×Unit) (fun (o0_0_0,o0_0_1,o0_0_2,o3_0_0,o3_0_1,o3_0_2,o3_0_3,o3_0_4,o3_0_7,o3_0_5,o3_0_6,o3_0_8,_)=>
  (bif o0_0_2 then
  Option.bind (ax.F ((⟨#[44]⟩:ByteArray),o0_0_0,o0_0_1,o0_0_2,())) fun y18=>
  (bif y18.1 then
  Option.bind (bg.F (y18.2.1,y18.2.2.1,y18.2.2.2.1,())) fun y19=>
  bif (Nat.ble (o3_0_6.length+ [y19.1].length) 17592186044416) then
  some (.inl (y19.2.1,y19.2.2.1,y19.2.2.2.1,o3_0_0,o3_0_1,o3_0_2,o3_0_3,o3_0_4,o3_0_7,o3_0_5,(o3_0_6++ [y19.1]),o3_0_8,()))
  else none
  else
  some (.inr (.inl (y18.2.1,y18.2.2.1,y18.2.2.2.1,o3_0_0,o3_0_1,o3_0_2,o3_0_3,o3_0_4,o3_0_7,o3_0_5,o3_0_6,o3_0_8,()))))
  else
  some (.inr (.inl (o0_0_0,o0_0_1,o0_0_2,o3_0_0,o3_0_1,o3_0_2,o3_0_3,o3_0_4,o3_0_7,o3_0_5,o3_0_6,o3_0_8,()))))) (y17.2.1,y17.2.2.1,y17.2.2.2.1,a1,a2,a3,a4,a5,a7,a6,(([]:List Int)++ [y17.1]),([]:List ct),())
  else none
  else
  some (.inl (o0_0_0_16,o0_0_1_16,o0_0_2_16,a1,a2,a3,a4,a5,a7,a6,[],[],()))))
  | .inr r=>some r:Option (VS⊕R))=some (.inl (L,(k':Int),ok',a1,a2,a3,a4,a5,a7,a6,w,[],()))∧Rf (z8 (L.length+100)) L k ok w k' ok':=by
  have hlen:=hL.1
  rw [ltl]
  have no:∀(hp:L.drop k=[]∨(tk (⟨#[103,114,111,117,112]⟩:ByteArray) (L.drop k)).isSome),Rf (z8 (L.length+100)) L k ok [] k ok:=fun hp=>by
    refine ⟨Nat.le_refl _,hk,fun h=>h,fun h=>?_⟩
    unfold z8
    rw [if_pos hp,h];rfl
  by_cases h0:L.drop k=[]
  · rw [decide_eq_true h0]
    simp only [Bool.not_true,cond_false,Option.bind_some]
    exact ⟨[],k,ok,rfl,no (.inl h0)⟩
  · rw [decide_eq_false h0]
    simp only [Bool.not_false,cond_true,Kk,Option.bind_some]
    cases hb:tkb (⟨#[103,114,111,117,112]⟩:ByteArray) L k with
    |true=>
      simp only [Bool.not_true,cond_false]
      exact ⟨[],k,ok,rfl,no (.inr hb)⟩
    |false=>
      simp only [Bool.not_false,cond_true]
      obtain ⟨v1,k1,o1,e1,r1⟩:=xE L hL k ok hk
      have c1:=r1.le
      rw [e1]
      simp only [Option.bind_some,List.length_nil,List.length_cons,List.nil_append]
      rw [show Nat.ble (0+(0+1)) 17592186044416=true from rfl]
      simp only [cond_true]
      obtain ⟨vs,k2,o2,g0,g1,g2,g3,g4⟩:=Ia (α:=Int) (S:=VS) (R:=VS⊕R) (⟨#[44]⟩:ByteArray) kc L
        (fun k ok acc=>(L,(k:Int),ok,a1,a2,a3,a4,a5,a7,a6,acc,[],())) (fun k ok acc=> .inl (L,(k:Int),ok,a1,a2,a3,a4,a5,a7,a6,acc,[],()))
        (body:=(fun (o0_0_0,o0_0_1,o0_0_2,o3_0_0,o3_0_1,o3_0_2,o3_0_3,o3_0_4,o3_0_7,o3_0_5,o3_0_6,o3_0_8,_)=>
  (bif o0_0_2 then
  Option.bind (ax.F ((⟨#[44]⟩:ByteArray),o0_0_0,o0_0_1,o0_0_2,())) fun y18=>
  (bif y18.1 then
  Option.bind (bg.F (y18.2.1,y18.2.2.1,y18.2.2.2.1,())) fun y19=>
  bif (Nat.ble (o3_0_6.length+ [y19.1].length) 17592186044416) then
  some (.inl (y19.2.1,y19.2.2.1,y19.2.2.2.1,o3_0_0,o3_0_1,o3_0_2,o3_0_3,o3_0_4,o3_0_7,o3_0_5,(o3_0_6++ [y19.1]),o3_0_8,()))
  else none
  else
  some (.inr (.inl (y18.2.1,y18.2.2.1,y18.2.2.2.1,o3_0_0,o3_0_1,o3_0_2,o3_0_3,o3_0_4,o3_0_7,o3_0_5,o3_0_6,o3_0_8,()))))
  else
  some (.inr (.inl (o0_0_0,o0_0_1,o0_0_2,o3_0_0,o3_0_1,o3_0_2,o3_0_3,o3_0_4,o3_0_7,o3_0_5,o3_0_6,o3_0_8,()))))))
        (fun k acc hk=>rfl)
        (fun k acc hk hb=>by
          simp only [cond_true,eG _ L hL k true hk,Option.bind_some,hb,cond_false])
        (fun k acc ha hk hb=>by
          obtain ⟨v,k',o',e,r⟩:=xE L hL (k+1) true hk
          refine ⟨v,k',o',r,?_⟩
          have hkI:kI true k=k+1:=rfl
          simp only [cond_true,eG _ L hL k true (Nat.le_of_lt hk),Option.bind_some,hb,hkI,e]
          have d2:Nat.ble (acc.length+ [v].length) 17592186044416=true:=by
            rw [Nat.ble_eq];simp only [List.length_cons,List.length_nil];omega
          rw [d2]
          rfl) (L.length+100) k1 o1 [v1] r1.hi (by omega) (by simp)
      refine ⟨v1::vs,k2,o2,g0,⟨by omega,g2,fun h=>g3 (r1.no h),fun h=>?_⟩⟩
      unfold z8
      rw [if_neg (by rintro (h|h);exact h0 h;exact absurd h (by rw [show (tk (⟨#[103,114,111,117,112]⟩:ByteArray) (L.drop k)).isSome=false from hb];decide)),xH,r1.yes h]
      cases o1 with
      |false=>rw [g3 rfl];rfl
      |true=>
        simp only [cond_true,Option.bind_some]
        rw [g4 rfl]
        cases o2<;>rfl
theorem JS {R : Type} (a1 a2 a3 : ByteArray) (a4 a5 : Int) (g : Bool) (a6 : List ae) (a8 : List Int) (L : List Tok) (hL : TL L) (k : Nat) (ok : Bool) (hk : k ≤ L.length) :
    ∃(w:List Dl.Agg) (k':Nat) (ok':Bool),(Option.bind (
  (bif g then
  some (.inl ((decide ((k:Int)<(L.length:Int))),()))
  else
  some (.inl (false,()))):Option ((Bool×Unit)⊕(VS⊕R))) fun r22=>match r22 with
  | .inl (x91_22,_)=>
  ((bif x91_22 then
  Option.bind (bt.F (L,(k:Int),ok,())) fun y23=>
  bif (Nat.ble (([]:List ct).length+ [(y23.1,y23.2.1)].length) 8796093022208) then
  bE (S:=(List bH)×Int×Bool×ByteArray×ByteArray×ByteArray×Int×Int×Bool×(List ae)×(List Int)×(List ct)×Unit) (fun (o0_0_0,o0_0_1,o0_0_2,o3_0_0,o3_0_1,o3_0_2,o3_0_3,o3_0_4,o3_0_7,o3_0_5,o3_0_6,o3_0_8,_)=>
  (bif o0_0_2 then
  Option.bind (ax.F ((⟨#[44]⟩:ByteArray),o0_0_0,o0_0_1,o0_0_2,())) fun y24=>
  (bif y24.1 then
  Option.bind (bt.F (y24.2.1,y24.2.2.1,y24.2.2.2.1,())) fun y25=>
  bif (Nat.ble (o3_0_8.length+ [(y25.1,y25.2.1)].length) 8796093022208) then
  some (.inl (y25.2.2.1,y25.2.2.2.1,y25.2.2.2.2.1,o3_0_0,o3_0_1,o3_0_2,o3_0_3,o3_0_4,o3_0_7,o3_0_5,o3_0_6,(o3_0_8++ [(y25.1,y25.2.1)]),()))
  else none
  else
  some (.inr (.inl (y24.2.1,y24.2.2.1,y24.2.2.2.1,o3_0_0,o3_0_1,o3_0_2,o3_0_3,o3_0_4,o3_0_7,o3_0_5,o3_0_6,o3_0_8,()))))
  else
  some (.inr (.inl (o0_0_0,o0_0_1,o0_0_2,o3_0_0,o3_0_1,o3_0_2,o3_0_3,o3_0_4,o3_0_7,o3_0_5,o3_0_6,o3_0_8,()))))) (y23.2.2.1,y23.2.2.2.1,y23.2.2.2.2.1,a1,a2,a3,a4,a5,g,a6,a8,(([]:List ct)++ [(y23.1,y23.2.1)]),())
  else none
  else
  some (.inl (L,(k:Int),ok,a1,a2,a3,a4,a5,g,a6,a8,[],()))))
  | .inr r=>some r:Option (VS⊕R))=some (.inl (L,(k':Int),ok',a1,a2,a3,a4,a5,g,a6,a8,w,()))∧
      Rf (fun l=>if g=false∨l=[] then some ([],l) else lA mJ (L.length+100) l) L k ok w k' ok':=by
  have hlen:=hL.1
  rw [ltl]
  have no:∀(hp:g=false∨L.drop k=[]),Rf (fun l=>if g=false∨l=[] then some ([],l) else lA mJ (L.length+100) l) L k ok [] k ok:=fun hp=>by
    refine ⟨Nat.le_refl _,hk,fun h=>h,fun h=>?_⟩
    rw [if_pos hp,h];rfl
  cases g with
  |false=>
    simp only [cond_false,Option.bind_some]
    exact ⟨[],k,ok,rfl,no (.inl rfl)⟩
  |true=>
    by_cases h0:L.drop k=[]
    · rw [decide_eq_true h0]
      simp only [Bool.not_true,cond_true,cond_false,Option.bind_some]
      exact ⟨[],k,ok,rfl,no (.inr h0)⟩
    · rw [decide_eq_false h0]
      simp only [Bool.not_false,cond_true,Option.bind_some]
      obtain ⟨v1,k1,o1,e1,r1⟩:=Ic L hL k ok hk
      have c1:=r1.le
      rw [e1]
      simp only [Option.bind_some,List.length_nil,List.length_cons,List.nil_append]
      rw [show Nat.ble (0+(0+1)) 8796093022208=true from rfl]
      simp only [cond_true]
      obtain ⟨vs,k2,o2,g0,g1,g2,g3,g4⟩:=Ia (α:=Dl.Agg) (S:=VS) (R:=VS⊕R) (⟨#[44]⟩:ByteArray) mJ L
        (fun k ok acc=>(L,(k:Int),ok,a1,a2,a3,a4,a5,true,a6,a8,acc,())) (fun k ok acc=> .inl (L,(k:Int),ok,a1,a2,a3,a4,a5,true,a6,a8,acc,()))
        (body:=(fun (o0_0_0,o0_0_1,o0_0_2,o3_0_0,o3_0_1,o3_0_2,o3_0_3,o3_0_4,o3_0_7,o3_0_5,o3_0_6,o3_0_8,_)=>
  (bif o0_0_2 then
  Option.bind (ax.F ((⟨#[44]⟩:ByteArray),o0_0_0,o0_0_1,o0_0_2,())) fun y24=>
  (bif y24.1 then
  Option.bind (bt.F (y24.2.1,y24.2.2.1,y24.2.2.2.1,())) fun y25=>
  bif (Nat.ble (o3_0_8.length+ [(y25.1,y25.2.1)].length) 8796093022208) then
  some (.inl (y25.2.2.1,y25.2.2.2.1,y25.2.2.2.2.1,o3_0_0,o3_0_1,o3_0_2,o3_0_3,o3_0_4,o3_0_7,o3_0_5,o3_0_6,(o3_0_8++ [(y25.1,y25.2.1)]),()))
  else none
  else
  some (.inr (.inl (y24.2.1,y24.2.2.1,y24.2.2.2.1,o3_0_0,o3_0_1,o3_0_2,o3_0_3,o3_0_4,o3_0_7,o3_0_5,o3_0_6,o3_0_8,()))))
  else
  some (.inr (.inl (o0_0_0,o0_0_1,o0_0_2,o3_0_0,o3_0_1,o3_0_2,o3_0_3,o3_0_4,o3_0_7,o3_0_5,o3_0_6,o3_0_8,()))))))
        (fun k acc hk=>rfl)
        (fun k acc hk hb=>by
          simp only [cond_true,eG _ L hL k true hk,Option.bind_some,hb,cond_false])
        (fun k acc ha hk hb=>by
          obtain ⟨v,k',o',e,r⟩:=Ic L hL (k+1) true hk
          refine ⟨v,k',o',r,?_⟩
          have hkI:kI true k=k+1:=rfl
          simp only [cond_true,eG _ L hL k true (Nat.le_of_lt hk),Option.bind_some,hb,hkI,e]
          have d2:Nat.ble (acc.length+ [(v.1,v.2)].length) 8796093022208=true:=by
            rw [Nat.ble_eq];simp only [List.length_cons,List.length_nil];omega
          rw [d2]
          rfl) (L.length+100) k1 o1 [v1] r1.hi (by omega) (by simp)
      refine ⟨v1::vs,k2,o2,g0,⟨by omega,g2,fun h=>g3 (r1.no h),fun h=>?_⟩⟩
      rw [if_neg (by rintro (h|h);exact absurd h (by decide);exact h0 h),xH,r1.yes h]
      cases o1 with
      |false=>rw [g3 rfl];rfl
      |true=>
        simp only [cond_true,Option.bind_some]
        rw [g4 rfl]
        cases o2<;>rfl
theorem Ih {α β:Type} {x:Option α} {K:α→Option β} (P:Option β→Prop) (v:α) (h:x=some v) (hp:P (K v)):P (x.bind K):=by rw [h];exact hp
theorem JT      (L : List Tok) (hL : TL L) (k : Nat) (ok : Bool) (hk : k ≤ L.length) :
    ∃(v:Dl.mI) (k':Nat) (ok':Bool),bz.F (L,(k:Int),ok,())=some (v.1,v.2.1,v.2.2.1,v.2.2.2.1.1,v.2.2.2.1.2,v.2.2.2.2.2.2.1,L,(k':Int),ok',v.2.2.2.2.1,v.2.2.2.2.2.1,v.2.2.2.2.2.2.2,())∧Rf nz L k ok v k' ok':=by
  rw [bz.eq]
  unfold bz.B
  simp only []
  have hlen:=hL.1
  obtain ⟨v1,k1,o1,e1,r1⟩:=qt L hL k ok hk
  rw [e1]
  simp only [Option.bind_some]
  rw [oo (⟨#[102,114,111,109]⟩:ByteArray) L hL k1 o1 r1.hi]
  simp only [Option.bind_some]
  have q2:=oS (s:=(⟨#[102,114,111,109]⟩:ByteArray)) r1.hi
  obtain ⟨v3,k3,o3,e3,r3⟩:=qt L hL _ (o1&&tkb (⟨#[102,114,111,109]⟩:ByteArray) L k1) q2.2
  rw [e3]
  simp only [Option.bind_some]
  obtain ⟨j,k4,o4,e4,r4⟩:=JP (R:=ByteArray×ByteArray×ByteArray×Int×Int×Bool×(List bH)×Int×Bool×(List ae)×(List Int)×(List ct)×Unit) v1 v3 L hL k3 o3 r3.hi
  rw [e4]
  simp only [Option.bind_some]
  obtain ⟨w,k5,o5,e5,r5⟩:=Ie (R:=ByteArray×ByteArray×ByteArray×Int×Int×Bool×(List bH)×Int×Bool×(List ae)×(List Int)×(List ct)×Unit) v1 v3 j.1 j.2.1 j.2.2 false [] [] L hL k4 o4 r4.hi
  rw [e5]
  simp only [Option.bind_some]
  rw [oo (⟨#[112,105,99,107]⟩:ByteArray) L hL k5 o5 r5.hi]
  simp only [Option.bind_some]
  have q6:=oS (s:=(⟨#[112,105,99,107]⟩:ByteArray)) r5.hi
  obtain ⟨p,k7,o7,e7,r7⟩:=JR (R:=ByteArray×ByteArray×ByteArray×Int×Int×Bool×(List bH)×Int×Bool×(List ae)×(List Int)×(List ct)×Unit) v1 v3 j.1 j.2.1 j.2.2 false w L hL _ (o5&&tkb (⟨#[112,105,99,107]⟩:ByteArray) L k5) q6.2
  refine Ih (fun o=>∃(v:Dl.mI) (k':Nat) (ok':Bool),o=some (v.1,v.2.1,v.2.2.1,v.2.2.2.1.1,v.2.2.2.1.2,v.2.2.2.2.2.2.1,L,(k':Int),ok',v.2.2.2.2.1,v.2.2.2.2.2.1,v.2.2.2.2.2.2.2,())∧Rf nz L k ok v k' ok') _ (Eq.trans ?_ e7) ?_
  · kernel_rfl
  simp only [Option.bind_some]
  rw [eG (⟨#[103,114,111,117,112]⟩:ByteArray) L hL k7 o7 r7.hi]
  simp only [Option.bind_some]
  have q8:=oS (s:=(⟨#[103,114,111,117,112]⟩:ByteArray)) r7.hi
  obtain ⟨gs,k9,o9,e9,r9⟩:=JS (R:=ByteArray×ByteArray×ByteArray×Int×Int×Bool×(List bH)×Int×Bool×(List ae)×(List Int)×(List ct)×Unit) v1 v3 j.1 j.2.1 j.2.2 (tkb (⟨#[103,114,111,117,112]⟩:ByteArray) L k7) w p L hL (kI (tkb (⟨#[103,114,111,117,112]⟩:ByteArray) L k7) k7) o7 q8.2
  refine Ih (fun o=>∃(v:Dl.mI) (k':Nat) (ok':Bool),o=some (v.1,v.2.1,v.2.2.1,v.2.2.2.1.1,v.2.2.2.1.2,v.2.2.2.2.2.2.1,L,(k':Int),ok',v.2.2.2.2.1,v.2.2.2.2.2.1,v.2.2.2.2.2.2.2,())∧Rf nz L k ok v k' ok') _ (Eq.trans ?_ e9) ?_
  · kernel_rfl
  simp only [Option.bind_some]
  have c1:=r1.le
  have c3:=r3.le
  have c4:=r4.le
  have c5:=r5.le
  have c7:=r7.le
  have c9:=r9.le
  have n7:o7=false→o9=false:=r9.no
  have n5:o5=false→o9=false:=fun h=>n7 (r7.no (by rw [h];rfl))
  have n4:o4=false→o9=false:=fun h=>n5 (r5.no h)
  have n3:o3=false→o9=false:=fun h=>n4 (r4.no h)
  have n1:o1=false→o9=false:=fun h=>n3 (r3.no (by rw [h];rfl))
  have hcol:decide ((p.length:Int)>(40:Int))= !decide (p.length≤40):=by
    by_cases h:p.length≤40
    · rw [decide_eq_true h];simp only [Bool.not_true,decide_eq_false_iff_not];omega
    · rw [decide_eq_false h];simp only [Bool.not_false,decide_eq_true_eq];omega
  have hchk:decide ((gs.length:Int)>(40:Int))= !decide (gs.length≤40):=by
    by_cases h:gs.length≤40
    · rw [decide_eq_true h];simp only [Bool.not_true,decide_eq_false_iff_not];omega
    · rw [decide_eq_false h];simp only [Bool.not_false,decide_eq_true_eq];omega
  refine ⟨(v1,(v3,(j.1,(j.2,(w,(p,(tkb (⟨#[103,114,111,117,112]⟩:ByteArray) L k7,gs))))))),k9,(o9&&decide (p.length≤40))&&decide (gs.length≤40),?_,by omega,r9.hi,fun h=>by rw [n1 (r1.no h)];rfl,fun h=>?_⟩
  · rw [hcol,hchk]
    cases decide (p.length≤40)<;>cases decide (gs.length≤40)<;>simp
  · unfold nz
    rw [r1.yes h]
    cases o1 with
    |false=>rw [n1 rfl];rfl
    |true=>
      simp only [cond_true,Option.bind_some,DV]
      cases hb1:tkb (⟨#[102,114,111,109]⟩:ByteArray) L k1 with
      |false=>rw [n3 (r3.no (by rw [hb1];rfl))];rfl
      |true=>
        simp only [cond_true,Option.bind_some]
        have y3:=r3.yes (by rw [hb1];rfl)
        have hk1:kI (tkb (⟨#[102,114,111,109]⟩:ByteArray) L k1) k1=k1+1:=by rw [hb1];rfl
        rw [hk1] at y3
        rw [y3]
        cases o3 with
        |false=>rw [n3 rfl];rfl
        |true=>
          simp only [cond_true,Option.bind_some]
          rw [r4.yes rfl]
          cases o4 with
          |false=>rw [n4 rfl];rfl
          |true=>
            simp only [cond_true,Option.bind_some]
            rw [r5.yes rfl]
            cases o5 with
            |false=>rw [n5 rfl];rfl
            |true=>
              simp only [cond_true,Option.bind_some,DV]
              cases hb5:tkb (⟨#[112,105,99,107]⟩:ByteArray) L k5 with
              |false=>rw [n7 (r7.no (by rw [hb5];rfl))];rfl
              |true=>
                simp only [cond_true,Option.bind_some]
                have y7:=r7.yes (by rw [hb5];rfl)
                have hk5:kI (tkb (⟨#[112,105,99,107]⟩:ByteArray) L k5) k5=k5+1:=by rw [hb5];rfl
                rw [hk5] at y7
                rw [JQ (L.length+100) (by omega),y7]
                cases o7 with
                |false=>rw [n7 rfl];rfl
                |true=>
                  simp only [cond_true,Option.bind_some]
                  by_cases hl:p.length≤40
                  · rw [if_pos hl,decide_eq_true hl]
                    simp only [Option.bind_some,Bool.and_true]
                    rw [Ig (L.length+100) (by omega)]
                    have y9:=r9.yes rfl
                    unfold DW
                    rw [DV]
                    cases hb7:tkb (⟨#[103,114,111,117,112]⟩:ByteArray) L k7 with
                    |false=>
                      have hk7:kI (tkb (⟨#[103,114,111,117,112]⟩:ByteArray) L k7) k7=k7:=by rw [hb7];rfl
                      rw [hk7,hb7,if_pos (.inl rfl)] at y9
                      simp only [cond_false,Option.bind_some]
                      cases o9 with
                      |false=>cases y9
                      |true=>
                        simp only [cond_true,Option.some.injEq,Prod.mk.injEq] at y9
                        obtain ⟨z1,z2⟩:=y9
                        rw [←z1,←z2]
                        rfl
                    |true=>
                      have hk7:kI (tkb (⟨#[103,114,111,117,112]⟩:ByteArray) L k7) k7=k7+1:=by rw [hb7];rfl
                      rw [hk7,hb7] at y9
                      simp only [cond_true]
                      by_cases h0:L.drop (k7+1)=[]
                      · rw [if_pos (.inr h0)] at y9
                        rw [if_pos h0]
                        cases o9 with
                        |false=>cases y9
                        |true=>
                          simp only [cond_true,Option.some.injEq,Prod.mk.injEq] at y9
                          obtain ⟨z1,z2⟩:=y9
                          rw [←z1,←z2]
                          rfl
                      · rw [if_neg (by rintro (h|h);exact absurd h (by decide);exact h0 h)] at y9
                        rw [if_neg h0,y9]
                        cases o9 with
                        |false=>rfl
                        |true=>
                          simp only [cond_true,Option.map_some,Option.bind_some,Bool.true_and]
                          by_cases hc:gs.length≤40
                          · rw [if_pos hc,decide_eq_true hc];rfl
                          · rw [if_neg hc,decide_eq_false hc];rfl
                  · rw [if_neg hl,decide_eq_false hl,Bool.and_false,Bool.false_and];rfl
end Go.Proofs.Ytleadolkcmagfaa
end
section
namespace Go.Proofs.Ytleadolkcmagfaa
open Go Lv Go.Proofs Go.RowKit Go.Shelf Dl
theorem Ii (s : ByteArray) : cY.F (s,()) = some (EJ (ke s.data.toList)) := by
  rw [cY.eq]
  unfold cY.B
  simp only [KW,Option.bind_some,ke]
  have hsz:s.data.toList.length=s.size:=rfl
  rw [hsz]
  by_cases hb:20000<s.size
  · rw [if_pos hb,if_pos hb];rfl
  · rw [if_neg hb,if_neg hb]
    cases h1:jB s.data.toList with
    |none=>rfl
    |some l=>
      have hl:=HR (s:=s.data.toList) (by rw [hsz];omega) h1
      have hL:TL l:=⟨hl.1,(AM _ s.data.toList (Nat.le_refl _) l h1).1⟩
      simp only [tJ,List.nil_append]
      rw [show ((0:Int) !=(0:Int))=false from rfl]
      simp only [cond_false]
      obtain ⟨v,k1,o1,e1,r1,g1,g2⟩:=A0 [(⟨#[116,97,98,108,101]⟩:ByteArray),(⟨#[118,105,101,119]⟩:ByteArray)] (by decide) l hL 0 true (Nat.zero_le _)
      have e1':bp.F ([(⟨#[116,97,98,108,101]⟩:ByteArray),(⟨#[118,105,101,119]⟩:ByteArray)],l,(0:Int),true,())=some (v,l,(k1:Int),o1,()):=e1
      rw [e1']
      simp only [Option.bind_some]
      have hy:=r1.yes rfl
      rw [List.drop_zero] at hy
      unfold lm Dt
      rw [hy]
      cases o1 with
      |false=>rfl
      |true=>
        simp only [cond_true,Option.bind_some]
        have e2:∀k:Nat,k≤l.length→decide ((k:Int)<(l.length:Int))= !decide (l.drop k=[]):=fun k _=>ltl
        by_cases h0:v=0
        · have b0:(v==(0:Int))=true:=by simp [h0]
          obtain ⟨t,k2,o2,e3,r2⟩:=Ib l hL k1 true r1.hi
          have y2:=r2.yes rfl
          simp only [b0,cond_true,e3,Option.bind_some,if_pos h0,y2]
          cases o2 with
          |false=>rfl
          |true=>
            simp only [Bool.not_true,cond_false,cond_true,Option.map_some,Option.bind_some]
            have hd:l.drop k2=[]↔l.length≤k2:=List.drop_eq_nil_iff
            by_cases h4:l.drop k2=[]
            · refine (cdF (by have:=hd.1 h4;omega)).trans ?_
              simp only [h4,if_true,h0];rfl
            · refine (cdT (Int.ofNat_lt.2 (Nat.lt_of_not_le fun h=>h4 (hd.2 h)))).trans ?_
              simp only [h4,if_false];rfl
        · have b0:(v==(0:Int))=false:=by simp [h0]
          obtain ⟨t,k2,o2,e3,r2⟩:=JT l hL k1 true r1.hi
          have y2:=r2.yes rfl
          simp only [b0,cond_false,cond_true,e3,Option.bind_some,if_neg h0,y2]
          cases o2 with
          |false=>rfl
          |true=>
            simp only [Bool.not_true,cond_false,cond_true,Option.map_some,Option.bind_some]
            have hd:l.drop k2=[]↔l.length≤k2:=List.drop_eq_nil_iff
            by_cases h4:l.drop k2=[]
            · refine (cdF (by have:=hd.1 h4;omega)).trans ?_
              simp only [h4,if_true];rfl
            · refine (cdT (Int.ofNat_lt.2 (Nat.lt_of_not_le fun h=>h4 (hd.2 h)))).trans ?_
              simp only [h4,if_false];rfl
end Go.Proofs.Ytleadolkcmagfaa
end
section
namespace Go.Proofs.Ytleadolkcmagfaa
open Go Lv Go.Proofs Go.RowKit Go.Shelf Dl
def eP (ws:List ByteArray):List UInt8:=ws.flatMap fun w=>32::w.data.toList
theorem p7 (a b:List ByteArray):eP (a++b)=eP a++eP b:=by simp [eP]
theorem xI:eP []=[]:=rfl
theorem iz (w:ByteArray) (l:List ByteArray):eP (w::l)=32::w.data.toList++eP l:=by simp [eP]
theorem gk {n:Nat} (h:n≤9223372036854775807):(!decide ((n:Int)>IntKind.i64.max))=true:=by
 rw [DP,Bool.not_eq_true',decide_eq_false_iff_not];omega
def Ij (v:Val):ByteArray:=if v.1=0 then (⟨#[110,117,108,108]⟩:ByteArray) else if v.1=1 then (if v.2.1=0 then (⟨#[102,97,108,115,101]⟩:ByteArray) else (⟨#[116,114,117,101]⟩:ByteArray)) else if v.1=2 then bs (Lib.itoa v.2.1) else if v.1=3 then bs (39::dbl v.2.2.data.toList++ [39]) else (⟨#[63]⟩:ByteArray)
theorem CM (c:UInt8) (r:List UInt8):dbl (c::r)=(if c=39 then [39,39] else [c])++dbl r:=by
 show (if c=39 then 39::39::dbl r else c::dbl r)=_
 split<;>rfl
theorem Ik (v : Val) (hi : I64 v.2.1) (hs : v.2.2.size ≤ 1000) : dq.F (v.1,v.2.1,v.2.2,()) = some (Ij v,()) := by
  obtain ⟨k,n,s⟩:=v
  simp only at hi hs
  rw [dq.eq]
  unfold dq.B Ij
  simp only [b_eq]
  by_cases h0:k=0
  · simp only [h0,decide_true,cond_true,if_true]
  simp only [h0,decide_false,cond_false,if_false]
  by_cases h1:k=1
  · simp only [h1,decide_true,cond_true,if_true]
    by_cases h2:n=0
    · simp only [h2,decide_true,cond_true,if_true]
    · simp only [h2,decide_false,cond_false,if_false]
  simp only [h1,decide_false,cond_false,if_false]
  by_cases h2:k=2
  · simp only [h2,decide_true,cond_true,if_true,kg n hi,Option.bind_some]
  simp only [h2,decide_false,cond_false,if_false]
  by_cases h3:k=3
  · simp only [h3,decide_true,cond_true,if_true]
    rw [fb (S:=ByteArray×Int×Unit) (m:=fun x=>s.size-x.2.1.toNat) (I:=fun x=>∃k:Nat,x.2.1=(k:Int)∧k≤s.size∧x.1.size≤2*k+1)
      (f:=fun x=> .inl (x.1++bs (dbl (lst s x.2.1.toNat)),())) ?_ _ ⟨0,rfl,by omega,by show 1≤1;omega⟩]
    · simp only [Option.bind_some]
      have e:lst s (0:Int).toNat=s.data.toList:=rfl
      have hz:((⟨#[39]⟩:ByteArray)++bs (dbl s.data.toList)).size≤2001:=by
        have:=AY s.data.toList
        have h1:s.data.toList.length=s.size:=rfl
        have h2:(bs (dbl s.data.toList)).size=(dbl s.data.toList).length:=cQ _
        rw [ByteArray.size_append]
        have:((⟨#[39]⟩:ByteArray)).size=1:=rfl
        omega
      have hq:((⟨#[39]⟩:ByteArray)).size=1:=rfl
      rw [e]
      rw [gk (by omega)]
      simp only [cond_true]
      rw [show (⟨#[39]⟩:ByteArray)=bs [39] from rfl,jE,jE]
      rfl
    · rintro ⟨acc,x,⟨⟩⟩ ⟨j,hj,hle,hsz⟩
      simp only at hj hsz
      subst hj
      simp only [Int.toNat_natCast]
      by_cases hlt:j<s.size
      · left
        obtain ⟨c,r,e⟩:=mK hlt
        obtain ⟨_,e1,e2⟩:=eu e
        have d1:decide ((j:Int)<(s.size:Int))=true:=by simp;omega
        have d0:decide (0≤(j:Int))=true:=by simp
        have w1:IntKind.i64.wrap ((j:Int)+(1:Int))=((j+1:Nat):Int):=cw hlt (by omega)
        have w3:(decide ((j:Int)≤((j+1:Nat):Int))&&decide (((j+1:Nat):Int)≤(s.size:Int)))=true:=by simp only [Bool.and_eq_true,decide_eq_true_eq];omega
        have w4:s.extract j (j+1)=bs [c]:=by rw [oj s j (j+1) (by omega),e];simp
        have c39:((c.toNat:Int)==(39:Int))=decide (c=39):=kz c 39 (by decide)
        rw [b_eq] at c39
        have hq:((⟨#[39]⟩:ByteArray)).size=1:=rfl
        have hc1:(bs [c]).size=1:=rfl
        have f1:(!decide (((acc.size+((⟨#[39]⟩:ByteArray)).size:Nat):Int)>IntKind.i64.max))=true:=gk (by omega)
        have f2:(!decide ((((acc++(⟨#[39]⟩:ByteArray)).size+(bs [c]).size:Nat):Int)>IntKind.i64.max))=true:=gk (by rw [ByteArray.size_append];omega)
        have f3:(!decide (((acc.size+(bs [c]).size:Nat):Int)>IntKind.i64.max))=true:=gk (by omega)
        simp only [d1,d0,Bool.and_self,Bool.true_and,cond_true,e2,c39,w1,w3,w4,f1,f2,f3,Int.toNat_natCast]
        by_cases h9:c=39
        · simp only [h9,decide_true,cond_true]
          refine ⟨_,rfl,⟨j+1,rfl,by omega,?_⟩,by simp only [Int.toNat_natCast];omega,?_⟩
          · show (acc++(⟨#[39]⟩:ByteArray)++bs [39]).size≤_
            rw [ByteArray.size_append,ByteArray.size_append]
            have:(bs [39]).size=1:=rfl
            clear e1 e
            omega
          · simp only [Int.toNat_natCast]
            rw [e1,e,CM,if_pos h9,show (⟨#[39]⟩:ByteArray)=bs [39] from rfl,kL,kL]
            rfl
        · simp only [h9,decide_false,cond_false]
          refine ⟨_,rfl,⟨j+1,rfl,by omega,?_⟩,by simp only [Int.toNat_natCast];omega,?_⟩
          · show (acc++bs [c]).size≤_
            rw [ByteArray.size_append]
            clear e1 e
            omega
          · simp only [Int.toNat_natCast]
            rw [e1,e,CM,if_neg h9,kL]
      · right
        have:lst s j=[]:=by
          have:=eO s j
          exact List.length_eq_zero_iff.1 (by omega)
        have d1:decide ((j:Int)<(s.size:Int))=false:=by simp;omega
        rw [this]
        simp only [d1,cond_false]
        rw [show dbl []=[] from rfl,vd]
  · simp only [h3,decide_false,cond_false,if_false]
def rMay (v:Val):Bool:=if v.1=0∨v.1=1 then decide (v.2.2=e0)&&(decide (0≤v.2.1)&&decide (v.2.1≤v.1)) else if v.1=2 then decide (v.2.2=e0) else if v.1=3 then decide (v.2.1=0)&&decide (v.2.2.size≤1000) else false
theorem KX (v:Val):dZ.F (v.1,v.2.1,v.2.2,())=some (rMay v,()):=by
 obtain ⟨k,n,s⟩:=v
 rw [dZ.eq]
 unfold dZ.B rMay
 simp only [b_eq,dY]
 have hn:decide (n≥(0:Int))=decide (0≤n):=rfl
 have hs:decide ((s.size:Int)≤(1000:Int))=decide (s.size≤1000):=by simp only [decide_eq_decide];omega
 simp only [hn,hs]
 by_cases h0:k=0
 ·simp only [h0,decide_true,cond_true,if_true,true_or,Option.bind_some]
  cases decide (s=e0)<;>cases decide (0≤n)<;>rfl
 simp only [h0,decide_false,cond_false,if_false,false_or]
 by_cases h1:k=1
 ·simp only [h1,decide_true,cond_true,if_true,Option.bind_some]
  cases decide (s=e0)<;>cases decide (0≤n)<;>rfl
 simp only [h1,decide_false,cond_false,if_false,Option.bind_some]
 by_cases h2:k=2
 ·simp only [h2,decide_true,cond_true,if_true]
 simp only [h2,decide_false,cond_false,if_false]
 by_cases h3:k=3
 ·simp only [h3,decide_true,cond_true,if_true]
  cases decide (n=0)<;>rfl
 ·simp only [h3,decide_false,cond_false,if_false]
abbrev uR:List ByteArray:=[e0,e0,(⟨#[43]⟩:ByteArray),(⟨#[45]⟩:ByteArray),(⟨#[42]⟩:ByteArray),(⟨#[61]⟩:ByteArray),(⟨#[60]⟩:ByteArray),(⟨#[97,110,100]⟩:ByteArray),(⟨#[111,114]⟩:ByteArray),(⟨#[110,111,116]⟩:ByteArray),(⟨#[110,117,108,108,63]⟩:ByteArray)]
def r3W (x:Dl.oT):ByteArray:=if x.1=0 then bs (99::Lib.itoa x.2.1) else if x.1=1 then Ij x.2.2 else if x.1<0∨10<x.1 then (⟨#[63]⟩:ByteArray) else uR.getD x.1.toNat e0
def jG (x:Dl.oT):ByteArray:=if x.1=10 then (⟨#[110,117,108,108,32,63]⟩:ByteArray) else if x.1=1∧x.2.2.1<2∧rMay x.2.2=false then (⟨#[33]⟩:ByteArray) else r3W x
end Go.Proofs.Ytleadolkcmagfaa
end
section
namespace Go.Proofs.Ytleadolkcmagfaa
open Go Lv Go.Proofs Go.RowKit Go.Shelf Dl
theorem Aa {v : Val} (hi : I64 v.2.1) (hs : v.2.2.size ≤ 1000) : (Ij v).size ≤ 2100 := by
  unfold Ij
  split
  · decide
  · split
    · split<;>decide
    · split
      · rw [cQ];have:=gX hi;omega
      · split
        · rw [cQ]
          have:=AY v.2.2.data.toList
          have h1:v.2.2.data.toList.length=v.2.2.size:=rfl
          simp only [List.length_append,List.length_cons,List.length_nil]
          omega
        · decide
theorem r3_s (x:Dl.oT) (hn:I64 x.2.1) (hi:I64 x.2.2.2.1) (hs:x.2.2.2.2.size≤1000):dm.F ([(x.1,(x.2.1,(x.2.2.1,(x.2.2.2.1,x.2.2.2.2))))],())=some (r3W x,()):=by
 rw [dm.eq]
 unfold dm.B
 simp only []
 have hx:(x.1,(x.2.1,(x.2.2.1,(x.2.2.2.1,x.2.2.2.2))))=x:=rfl
 rw [hx]
 have hl:([x].length:Int)=1:=rfl
 have hg:List.getD [x] (Int.toNat 0) bD.z=x:=rfl
 have hv:=Aa hi hs
 have hit:=gX hn
 have hw0:IntKind.i64.wrap ((0:Int)+1)=1:=by decide
 have he:∀b:ByteArray,(⟨#[]⟩:ByteArray)++b=b:=fun b=>by
  apply Go.WideShapes.bytes_inj;simp
 have hz:(⟨#[]⟩:ByteArray).size=0:=rfl
 have f:∀b:ByteArray,b.size≤1000000→(!decide ((((⟨#[]⟩:ByteArray).size+b.size:Nat):Int)>IntKind.i64.max))=true:=fun b hb=>gk (by omega)
 rw [ej]
 have d1:decide ((0:Int)<([x].length:Int))=true:=rfl
 have d2:decide ((0:Int)>(0:Int))=false:=rfl
 have d3:(decide (0≤(0:Int))&&decide ((0:Int)<([x].length:Int)))=true:=rfl
 have stop:∀b:ByteArray,(bE (S:=ByteArray×Int×Unit) (R:=ByteArray×Unit) (fun (x4,x5,_)=>
 (bif (decide (x5<([x].length:Int))) then
 Option.bind (
 (bif (decide (x5>(0:Int))) then
 bif (!decide (((x4.size+(⟨#[32]⟩:ByteArray).size:Nat):Int)>IntKind.i64.max)) then
 let e1:ByteArray:=(x4++(⟨#[32]⟩:ByteArray))
 some (.inl (e1,()))
 else none
 else
 some (.inl (x4,()))):Option ((ByteArray×Unit)⊕_)) fun r2=>match r2 with
 | .inl (x4_2,_)=>
 (bif (decide (0≤x5)&&decide (x5<([x].length:Int))) then
 let e3:ae:=(List.getD [x] (Int.toNat x5) bD.z)
 (bif (e3.1==(0:Int)) then
 Option.bind (bC.F (e3.2.1,())) fun y4=>
 bif (!decide ((((⟨#[99]⟩:ByteArray).size+y4.1.size:Nat):Int)>IntKind.i64.max)) then
 let e5:ByteArray:=((⟨#[99]⟩:ByteArray)++y4.1)
 bif (!decide (((x4_2.size+e5.size:Nat):Int)>IntKind.i64.max)) then
 let e6:ByteArray:=(x4_2++e5)
 let e7:Int:=(IntKind.i64.wrap (x5+(1:Int)))
 some (.inl (e6,e7,()))
 else none
 else none
 else
 (bif (e3.1==(1:Int)) then
 Option.bind (dq.F (e3.2.2.1,e3.2.2.2.1,e3.2.2.2.2,())) fun y8=>
 bif (!decide (((x4_2.size+y8.1.size:Nat):Int)>IntKind.i64.max)) then
 let e9:ByteArray:=(x4_2++y8.1)
 let e10:Int:=(IntKind.i64.wrap (x5+(1:Int)))
 some (.inl (e9,e10,()))
 else none
 else
 (bif (decide (e3.1<(0:Int))) then
 bif (!decide (((x4_2.size+(⟨#[63]⟩:ByteArray).size:Nat):Int)>IntKind.i64.max)) then
 let e11:ByteArray:=(x4_2++(⟨#[63]⟩:ByteArray))
 let e12:Int:=(IntKind.i64.wrap (x5+(1:Int)))
 some (.inl (e11,e12,()))
 else none
 else
 (bif (decide (e3.1>(10:Int))) then
 bif (!decide (((x4_2.size+(⟨#[63]⟩:ByteArray).size:Nat):Int)>IntKind.i64.max)) then
 let e13:ByteArray:=(x4_2++(⟨#[63]⟩:ByteArray))
 let e14:Int:=(IntKind.i64.wrap (x5+(1:Int)))
 some (.inl (e13,e14,()))
 else none
 else
 bif (decide (0≤e3.1)&&decide (e3.1<(uR.length:Int))) then
 let e15:ByteArray:=(List.getD uR (Int.toNat e3.1) (⟨#[]⟩:ByteArray))
 bif (!decide (((x4_2.size+e15.size:Nat):Int)>IntKind.i64.max)) then
 let e16:ByteArray:=(x4_2++e15)
 let e17:Int:=(IntKind.i64.wrap (x5+(1:Int)))
 some (.inl (e16,e17,()))
 else none
 else none))))
 else none)
 | .inr r=>some r
 else
 some (.inr (x4,())))) (b,(1:Int),()))=some (b,()):=fun b=>by rw [ej];rfl
 simp only [d1,d2,d3,cond_true,cond_false,Option.bind_some,hg,b_eq,hw0]
 unfold r3W
 by_cases h0:x.1=0
 ·simp only [h0,decide_true,cond_true,kg _ hn,Option.bind_some,if_true]
  have e1:(⟨#[99]⟩:ByteArray)++bs (Lib.itoa x.2.1)=bs (99::Lib.itoa x.2.1):=by rw [show (⟨#[99]⟩:ByteArray)=bs [99] from rfl,jE];rfl
  have hq:(⟨#[99]⟩:ByteArray).size=1:=rfl
  rw [gk (by rw [hq,cQ];omega),e1]
  simp only [cond_true,he]
  rw [f _ (by rw [cQ];simp only [List.length_cons];omega)]
  simp only [cond_true]
  exact stop _
 simp only [h0,decide_false,cond_false,if_false]
 by_cases h1:x.1=1
 ·simp only [h1,decide_true,cond_true,Ik x.2.2 hi hs,Option.bind_some,if_true,he]
  rw [f _ (by omega)]
  simp only [cond_true]
  exact stop _
 simp only [h1,decide_false,cond_false,if_false]
 by_cases h2:x.1<0
 ·rw [decide_eq_true h2,if_pos (.inl h2)]
  simp only [cond_true,he]
  rw [f _ (by decide)]
  exact stop _
 rw [decide_eq_false h2]
 simp only [cond_false]
 by_cases h3:10<x.1
 ·have:decide (x.1>(10:Int))=true:=decide_eq_true h3
  rw [this,if_pos (.inr h3)]
  simp only [cond_true,he]
  rw [f _ (by decide)]
  exact stop _
 ·have:decide (x.1>(10:Int))=false:=decide_eq_false h3
  rw [this,if_neg (by omega)]
  simp only [cond_false]
  have d4:(decide (0≤x.1)&&decide (x.1<((uR.length:Nat):Int)))=true:=by
   have:((uR.length:Nat):Int)=11:=rfl
   rw [this]
   simp only [Bool.and_eq_true,decide_eq_true_eq];omega
  have hsz:(List.getD uR (Int.toNat x.1) e0).size≤1000000:=by
   have:∀n:Nat,n<11→(List.getD uR n e0).size≤1000000:=by decide
   exact this _ (by omega)
  rw [d4]
  simp only [cond_true]
  rw [f _ hsz]
  simp only [cond_true,he]
  exact stop _
end Go.Proofs.Ytleadolkcmagfaa
end
section
namespace Go.Proofs.Ytleadolkcmagfaa
open Go Lv Go.Proofs Go.RowKit Go.Shelf Dl
theorem Il {x : Dl.oT} (hn : I64 x.2.1) (hi : I64 x.2.2.2.1) (hs : x.2.2.2.2.size ≤ 1000) : (r3W x).size ≤ 2100 := by
  unfold r3W
  split
  · rw [cQ];have:=gX hn;simp only [List.length_cons];omega
  · split
    · exact Aa hi hs
    · split
      · decide
      · rename_i h
        have:∀n:Nat,n<11→(List.getD uR n e0).size≤2100:=by decide
        exact this _ (by omega)
theorem p8 {x:Dl.oT} (hn:I64 x.2.1) (hi:I64 x.2.2.2.1) (hs:x.2.2.2.2.size≤1000):(jG x).size≤2100:=by
 unfold jG
 split
 ·decide
 ·split
  ·decide
  ·exact Il hn hi hs
theorem CN (x:Dl.oT) (hn:I64 x.2.1) (hi:I64 x.2.2.2.1) (hs:x.2.2.2.2.size≤1000):bX.F (x.1,x.2.1,x.2.2.1,x.2.2.2.1,x.2.2.2.2,())=some (jG x,()):=by
 rw [bX.eq]
 unfold bX.B jG
 simp only [r3_s x hn hi hs,Option.bind_some,b_eq,KX x.2.2]
 by_cases h0:x.1=10
 ·simp only [h0,decide_true,cond_true,if_true]
 simp only [h0,decide_false,cond_false,if_false]
 by_cases h1:x.1=1
 ·simp only [h1,decide_true,cond_true,true_and]
  by_cases h2:x.2.2.1<2
  ·rw [decide_eq_true h2]
   simp only [cond_true,h2,true_and]
   cases rMay x.2.2<;>simp
  ·rw [decide_eq_false h2]
   simp only [cond_false,h2,false_and,if_false]
 ·simp only [h1,decide_false,cond_false,false_and,if_false]
def ap (x:ByteArray) (ws:List ByteArray):ByteArray:=x++bs (eP ws)
theorem CO (x:ByteArray) (a b:List ByteArray):ap (ap x a) b=ap x (a++b):=by
 unfold ap;rw [kL,p7]
theorem xJ (x:ByteArray):ap x []=x:=vd x
theorem jr (x:ByteArray) (ws:List ByteArray):(ap x ws).size=x.size+(eP ws).length:=by
 unfold ap
 have:(bs (eP ws)).size=(eP ws).length:=cQ _
 rw [ByteArray.size_append,this]
theorem fQ {a b:ByteArray} (h:a.data.toList=b.data.toList):a=b:=Go.WideShapes.bytes_inj h
theorem sp_w (w:ByteArray):(⟨#[32]⟩:ByteArray)++w=bs (eP [w]):=fQ (by simp [eP])
def oV {α:Type} (f:Bool→α→List ByteArray):Bool→List α→List ByteArray
 |_,[]=> []
 |b,x::r=>f b x++oV f true r
theorem xK {α:Type} (g:α→List ByteArray):∀(l:List α) (b:Bool),oV (fun b x=>(if b then [(⟨#[44]⟩:ByteArray)] else [])++g x) b l=jt g b l:=by
 intro l
 induction l with
 |nil=>intro b;rfl
 |cons x l ih=>intro b;simp only [oV,jt,ih]
theorem Ab {α:Type} (g:α→List ByteArray):∀(l:List α) (b:Bool),oV (fun _ x=>g x) b l=l.flatMap g:=by
 intro l
 induction l with
 |nil=>intro b;rfl
 |cons x l ih=>intro b;simp only [oV,List.flatMap_cons,ih]
theorem xL {α R:Type} {body:ByteArray×Int×Unit→Option ((ByteArray×Int×Unit)⊕R)} (l:List α) (hl:l.length≤400) (f:Bool→α→List ByteArray) (B base:Nat) (hB:B≤1000000)
 (hf:∀b,∀x∈l,(eP (f b x)).length≤B) (fin:ByteArray→R)
 (h1:∀(k:Nat) (hk:k<l.length) x,x.size≤base+B*k→body (x,(k:Int),())=some (.inl (ap x (f (decide (0<k)) l[k]),((k+1:Nat):Int),())))
 (h2:∀x,body (x,(l.length:Int),())=some (.inr (fin x))) (x:ByteArray) (hx:x.size≤base):
 bE body (x,(0:Int),())=some (fin (ap x (oV f false l)))∧(ap x (oV f false l)).size≤base+B*l.length:=by
 have go:∀(n k:Nat),n+k=l.length→∀x,x.size≤base+B*k→bE body (x,(k:Int),())=some (fin (ap x (oV f (decide (0<k)) (l.drop k))))∧(ap x (oV f (decide (0<k)) (l.drop k))).size≤base+B*l.length:=by
  intro n
  induction n with
  |zero=>
   intro k hk x hx
   have:k=l.length:=by omega
   subst this
   rw [ej,h2 x,List.drop_length]
   simp only [oV,xJ]
   exact ⟨trivial,hx⟩
  |succ n ih=>
   intro k hk x hx
   have hlt:k<l.length:=by omega
   rw [ej,h1 k hlt x hx]
   simp only
   have hfl:=hf (decide (0<k)) _ (List.getElem_mem hlt)
   have hm:B*(k+1)=B*k+B:=Nat.mul_succ B k
   obtain ⟨i1,i2⟩:=ih (k+1) (by omega) (ap x (f (decide (0<k)) l[k])) (by rw [jr];omega)
   rw [CO,show decide (0<k+1)=true by simp] at i1 i2
   rw [List.drop_eq_getElem_cons hlt]
   simp only [oV]
   exact ⟨i1,i2⟩
 exact go l.length 0 rfl x (by omega)
theorem rO {α R Q:Type} {body:ByteArray×Int×Unit→Option ((ByteArray×Int×Unit)⊕R)} {K:R→Option Q} {q:Option Q} (l:List α) (hl:l.length≤400) (f:Bool→α→List ByteArray) (B base:Nat) (hB:B≤1000000)
 (hf:∀b,∀x∈l,(eP (f b x)).length≤B) (fin:ByteArray→R) (x:ByteArray) (hx:x.size≤base)
 (h1:∀(k:Nat) (hk:k<l.length) x,x.size≤base+B*k→body (x,(k:Int),())=some (.inl (ap x (f (decide (0<k)) l[k]),((k+1:Nat):Int),())))
 (h2:∀x,body (x,(l.length:Int),())=some (.inr (fin x)))
 (hP:(ap x (oV f false l)).size≤base+B*l.length→K (fin (ap x (oV f false l)))=q):Option.bind (bE body (x,(0:Int),())) K=q:=by
 obtain ⟨g1,g2⟩:=xL l hl f B base hB hf fin h1 h2 x hx
 rw [g1]
 exact hP g2
def EF2 (e:List ae):Prop:=xy e∧∀x∈e,x.2.2.2.2.size≤1000
def gI (e:List ae):List ByteArray:=(⟨#[91]⟩:ByteArray)::e.map jG++ [(⟨#[93]⟩:ByteArray)]
theorem nK (w:ByteArray):(eP [w]).length=w.size+1:=by
 rw [iz,xI,List.append_nil]
 have:w.data.toList.length=w.size:=rfl
 simp only [List.length_cons];omega
theorem Im {α:Type} (g:α→ByteArray) (l:List α):l.flatMap (fun x=> [g x])=l.map g:=by
 induction l with
 |nil=>rfl
 |cons x l ih=>simp [List.flatMap_cons,ih]
theorem p9 (e : List ae) (he : EF2 e) : bS.F (e,()) = some (bs (eP (gI e)),()) ∧ (eP (gI e)).length ≤ 300000 := by
  rw [bS.eq]
  unfold bS.B
  simp only []
  obtain ⟨⟨hl,hi⟩,hs⟩:=he
  have hall:(eP (gI e)).length≤300000:=by
    have:∀l:List ae,(∀x∈l,(jG x).size≤2100)→(eP (l.map jG)).length≤2101*l.length:=by
      intro l
      induction l with
      |nil=>intro _;simp [eP]
      |cons x l ih=>
        intro h
        have h1:=ih fun y hy=>h y (List.mem_cons_of_mem _ hy)
        have h2:=h x (by simp)
        have h3:(jG x).data.toList.length=(jG x).size:=rfl
        rw [List.map_cons,iz]
        simp only [List.length_append,List.length_cons]
        omega
    have h:=this e fun x hx=>p8 (hi x hx).2.1 (hi x hx).2.2 (hs x hx)
    have e1:eP (gI e)=eP [(⟨#[91]⟩:ByteArray)]++eP (e.map jG)++eP [(⟨#[93]⟩:ByteArray)]:=by
      rw [←p7,←p7];rfl
    rw [e1,List.length_append,List.length_append,nK,nK]
    have:((⟨#[91]⟩:ByteArray)).size=1:=rfl
    have:((⟨#[93]⟩:ByteArray)).size=1:=rfl
    have:2101*e.length≤2101*120:=Nat.mul_le_mul_left _ hl
    omega
  refine ⟨?_,hall⟩
  refine rO (α:=ae) e (by omega) (fun _ x=> [jG x]) 2101 2 (by decide)
    (fun b x hx=>by have:=p8 (hi x hx).2.1 (hi x hx).2.2 (hs x hx);rw [nK];omega) (fun x=> .inl (x,()))
    (bs (eP [(⟨#[91]⟩:ByteArray)])) (by rw [cQ,nK];decide) ?_ ?_ ?_
  · intro k hk x hx
    have d1:decide ((k:Int)<(e.length:Int))=true:=by simp;omega
    have d0:decide (0≤(k:Int))=true:=by simp
    have hm:=List.getElem_mem hk
    have hz:=p8 (hi _ hm).2.1 (hi _ hm).2.2 (hs _ hm)
    have hq:((⟨#[32]⟩:ByteArray)).size=1:=rfl
    have hk2:2101*k≤2101*120:=Nat.mul_le_mul_left _ (by omega)
    simp only [d1,d0,Bool.and_self,cond_true,Int.toNat_natCast,bU hk,CN e[k] (hi _ hm).2.1 (hi _ hm).2.2 (hs _ hm),Option.bind_some,cw hk (show e.length<9223372036854775808 by omega)]
    rw [gk (by omega)]
    simp only [cond_true]
    rw [gk (by rw [ByteArray.size_append];omega)]
    simp only [cond_true,sp_w]
    rfl
  · intro x
    have d1:decide ((e.length:Int)<(e.length:Int))=false:=by simp
    simp only [d1,cond_false]
  · intro hsz
    simp only []
    have hq:((⟨#[32,93]⟩:ByteArray)).size=2:=rfl
    have hk2:2101*e.length≤2101*120:=Nat.mul_le_mul_left _ (by omega)
    rw [gk (by omega)]
    simp only [cond_true]
    rw [Ab (fun x=> [jG x]),Im]
    have:ap (bs (eP [(⟨#[91]⟩:ByteArray)])) (e.map jG)++(⟨#[32,93]⟩:ByteArray)=bs (eP (gI e)):=by
      rw [show (⟨#[32,93]⟩:ByteArray)=bs (eP [(⟨#[93]⟩:ByteArray)]) from rfl]
      unfold ap
      rw [jE,jE,←p7,←p7]
      rfl
    rw [this]
theorem EV (n:Int) (ws:List ByteArray):dh.F (n,ws,())=some (fN n ws,()):=by
 rw [dh.eq]
 unfold dh.B fN
 simp only []
 by_cases h1:n<0
 ·rw [decide_eq_true h1,if_pos (.inl h1)];rfl
 ·rw [decide_eq_false h1]
  simp only [cond_false]
  by_cases h2:(ws.length:Int)≤n
  ·have:decide (n≥(ws.length:Int))=true:=decide_eq_true h2
   rw [this,if_pos (.inr h2)];rfl
  ·have:decide (n≥(ws.length:Int))=false:=decide_eq_false h2
   have d:(decide (0≤n)&&decide (n<(ws.length:Int)))=true:=by simp only [Bool.and_eq_true,decide_eq_true_eq];omega
   rw [this,if_neg (by omega),d];rfl
end Go.Proofs.Ytleadolkcmagfaa
end
section
namespace Go.Proofs.Ytleadolkcmagfaa
open Go Lv Go.Proofs Go.RowKit Go.Shelf Dl
theorem s7 {R:Type} (b:Bool) (x s:ByteArray) (ws:List ByteArray) (hs:s=bs (eP ws)) (h:x.size+s.size≤9223372036854775807):
 (bif b then bif (!decide (((x.size+s.size:Nat):Int)>IntKind.i64.max)) then some (.inl (x++s,())) else none else some (.inl (x,())):Option ((ByteArray×Unit)⊕R))=some (.inl (ap x (if b then ws else []),())):=by
 cases b with
 |false=>simp only [cond_false,Bool.false_eq_true,if_false,xJ]
 |true=>
  rw [gk h,hs]
  simp only [cond_true,if_true]
  rfl
theorem EW:∀(l:List ByteArray),WB l→(eP l).length≤2101*l.length:=by
 intro l
 induction l with
 |nil=>intro _;simp [eP]
 |cons w l ih=>
  intro h
  have h1:=ih fun y hy=>h y (List.mem_cons_of_mem _ hy)
  have h2:w.data.toList.length≤2100:=h w (by simp)
  rw [iz]
  simp only [List.length_append,List.length_cons]
  omega
theorem JU {c:Col} (h1:c.1.size≤100) (h2:c.2.2.2.2.1.size≤100):WB (nC c):=by
 unfold nC
 have w1:(fN (IntKind.i64.wrap (c.2.1-1)) kinds).size≤30:=gt (by decide)
 have w2:(fN c.2.2.2.2.2 yj).size≤30:=gt (by decide)
 exact .app (.cons (by omega) (.cons (by omega) .nil)) (.app (.ite (.cons (by decide) .nil) .nil) (.app (.ite (.cons (by decide) .nil) .nil) (.ite .nil (.cons (by decide) (.cons (by omega) (.cons (by omega) .nil))))))
def iu {α:Type} (g:α→List ByteArray) (b:Bool) (x:α):List ByteArray:=(if b then [(⟨#[44]⟩:ByteArray)] else [])++g x
theorem Ga {α:Type} {g:α→List ByteArray} {b:Bool} {x:α} (h:WB (g x)):WB (iu g b x):=.app (.ite (.cons (by decide) .nil) .nil) h
theorem DX {α:Type} {g:α→List ByteArray} {b:Bool} {x:α} (h:(g x).length≤8):(iu g b x).length≤9:=by
 unfold iu
 rw [List.length_append]
 have:(if b then [(⟨#[44]⟩:ByteArray)] else ([]:List ByteArray)).length≤1:=by split<;>simp
 omega
theorem rP {α:Type} {g:α→List ByteArray} {b:Bool} {x:α} (h:WB (g x)) (hl:(g x).length≤8):(eP (iu g b x)).length≤18909:=by
 have h1:=EW _ (Ga (b:=b) h)
 have h2:=DX (b:=b) hl
 have:2101*(iu g b x).length≤2101*9:=Nat.mul_le_mul_left _ h2
 omega
def qu (e:List ae):List ByteArray:=(⟨#[99,104,101,99,107]⟩:ByteArray)::gI e
def A2 (t:Tab):List ByteArray:=[t.1,(⟨#[40]⟩:ByteArray)]++jt nC false t.2.1++ [(⟨#[41]⟩:ByteArray)]++t.2.2.flatMap qu
theorem gt0 (k:Nat):decide ((k:Int)>(0:Int))=decide (0<k):=by simp only [decide_eq_decide];omega
theorem A3 (n : ByteArray) (c : List Col) (k : List (List ae)) (hn : n.size ≤ 100) (hc : c.length ≤ 400) (hk : k.length ≤ 400)
    (hcn:∀x∈c,x.1.size≤100∧x.2.2.2.2.1.size≤100) (he:∀e∈k,EF2 e):bN.F (n,c,k,())=some (ap (⟨#[116,97,98,108,101]⟩:ByteArray) (A2 (n,(c,k))),()):=by
  rw [bN.eq]
  unfold bN.B
  simp only []
  have z1:((⟨#[116,97,98,108,101,32]⟩:ByteArray)).size=6:=rfl
  have z2:((⟨#[32,40]⟩:ByteArray)).size=2:=rfl
  rw [gk (by omega)]
  simp only [cond_true]
  rw [gk (by rw [ByteArray.size_append];omega)]
  simp only [cond_true]
  have e1:(⟨#[116,97,98,108,101,32]⟩:ByteArray)++n++(⟨#[32,40]⟩:ByteArray)=ap (⟨#[116,97,98,108,101]⟩:ByteArray) [n,(⟨#[40]⟩:ByteArray)]:=fQ (by simp [ap,eP])
  rw [e1]
  have s1:(ap (⟨#[116,97,98,108,101]⟩:ByteArray) [n,(⟨#[40]⟩:ByteArray)]).size≤200:=by
    rw [jr,iz,iz,xI]
    have h1:n.data.toList.length=n.size:=rfl
    have h2:((⟨#[40]⟩:ByteArray)).data.toList.length=1:=rfl
    have h3:((⟨#[116,97,98,108,101]⟩:ByteArray)).size=5:=rfl
    simp only [List.length_append,List.length_cons,List.length_nil]
    omega
  refine rO (α:=Col) c hc (iu nC) 18909 200 (by decide) (fun b x hx=>rP (JU (hcn x hx).1 (hcn x hx).2) (xA x)) (fun x=> .inl (x,()))
    (ap (⟨#[116,97,98,108,101]⟩:ByteArray) [n,(⟨#[40]⟩:ByteArray)]) s1 ?_ ?_ ?_
  · intro j hj x hx
    have d1:decide ((j:Int)<(c.length:Int))=true:=by simp;omega
    have d0:decide (0≤(j:Int))=true:=by simp
    have hm:=List.getElem_mem hj
    obtain ⟨m1,m2⟩:=hcn _ hm
    have hj2:18909*j≤18909*400:=Nat.mul_le_mul_left _ (by omega)
    simp only [d1,d0,Bool.and_self,cond_true,Int.toNat_natCast,bU hj,cw hj (show c.length<9223372036854775808 by omega),gt0]
    generalize c[j]=q at m1 m2
    obtain ⟨q1,q2,q3,q4,q5,q6⟩:=q
    simp only at m1 m2 ⊢
    have y1:((⟨#[32,44]⟩:ByteArray)).size=2:=rfl
    refine (cT (.inl (ap x (if decide (0<j) then [(⟨#[44]⟩:ByteArray)] else []),())) (s7 _ x (⟨#[32,44]⟩:ByteArray) [(⟨#[44]⟩:ByteArray)] rfl (by omega))).trans ?_
    have a1:(ap x (if decide (0<j) then [(⟨#[44]⟩:ByteArray)] else [])).size≤x.size+10:=by
      rw [jr]
      have:(eP (if decide (0<j) then [(⟨#[44]⟩:ByteArray)] else [])).length≤10:=by split<;>decide
      omega
    generalize hx1:ap x (if decide (0<j) then [(⟨#[44]⟩:ByteArray)] else [])=x1 at a1
    simp only [EV,Option.bind_some]
    have w1:(fN (IntKind.i64.wrap (q2-1)) [(⟨#[98,111,111,108]⟩:ByteArray),(⟨#[105,110,116]⟩:ByteArray),(⟨#[116,101,120,116]⟩:ByteArray)]).size≤30:=gt (by decide)
    have w2:(fN q6 [(⟨#[114,101,115,116,114,105,99,116]⟩:ByteArray),(⟨#[99,97,115,99,97,100,101]⟩:ByteArray),(⟨#[115,101,116,110,117,108,108]⟩:ByteArray)]).size≤30:=gt (by decide)
    have y2:((⟨#[32]⟩:ByteArray)).size=1:=rfl
    have t1:((⟨#[32]⟩:ByteArray)++q1).size=1+q1.size:=by rw [ByteArray.size_append];rfl
    have t2:((⟨#[32]⟩:ByteArray)++q1++(⟨#[32]⟩:ByteArray)).size=2+q1.size:=by rw [ByteArray.size_append,t1];omega
    have t3:((⟨#[32]⟩:ByteArray)++q1++(⟨#[32]⟩:ByteArray)++fN (IntKind.i64.wrap (q2-1)) [(⟨#[98,111,111,108]⟩:ByteArray),(⟨#[105,110,116]⟩:ByteArray),(⟨#[116,101,120,116]⟩:ByteArray)]).size≤32+q1.size:=by rw [ByteArray.size_append,t2];omega
    rw [gk (by omega)]
    simp only [cond_true]
    rw [gk (by omega)]
    simp only [cond_true]
    rw [gk (by omega)]
    simp only [cond_true]
    rw [gk (by omega)]
    simp only [cond_true]
    have e2:x1++((⟨#[32]⟩:ByteArray)++q1++(⟨#[32]⟩:ByteArray)++fN (IntKind.i64.wrap (q2-1)) [(⟨#[98,111,111,108]⟩:ByteArray),(⟨#[105,110,116]⟩:ByteArray),(⟨#[116,101,120,116]⟩:ByteArray)])=ap x1 [q1,fN (IntKind.i64.wrap (q2-1)) [(⟨#[98,111,111,108]⟩:ByteArray),(⟨#[105,110,116]⟩:ByteArray),(⟨#[116,101,120,116]⟩:ByteArray)]]:=fQ (by simp [ap,eP])
    have a2:(ap x1 [q1,fN (IntKind.i64.wrap (q2-1)) [(⟨#[98,111,111,108]⟩:ByteArray),(⟨#[105,110,116]⟩:ByteArray),(⟨#[116,101,120,116]⟩:ByteArray)]]).size≤x1.size+200:=by rw [←e2,ByteArray.size_append];omega
    rw [e2]
    generalize hx2:ap x1 [q1,fN (IntKind.i64.wrap (q2-1)) [(⟨#[98,111,111,108]⟩:ByteArray),(⟨#[105,110,116]⟩:ByteArray),(⟨#[116,101,120,116]⟩:ByteArray)]]=x2 at a2
    have y3:((⟨#[32,110,117,108,108]⟩:ByteArray)).size=5:=rfl
    refine (cT (.inl (ap x2 (if q3 then [(⟨#[110,117,108,108]⟩:ByteArray)] else []),())) (s7 _ x2 (⟨#[32,110,117,108,108]⟩:ByteArray) [(⟨#[110,117,108,108]⟩:ByteArray)] rfl (by omega))).trans ?_
    have a3:(ap x2 (if q3 then [(⟨#[110,117,108,108]⟩:ByteArray)] else [])).size≤x2.size+10:=by
      rw [jr]
      have:(eP (if q3 then [(⟨#[110,117,108,108]⟩:ByteArray)] else [])).length≤10:=by split<;>decide
      omega
    generalize hx3:ap x2 (if q3 then [(⟨#[110,117,108,108]⟩:ByteArray)] else [])=x3 at a3
    simp only []
    have y4:((⟨#[32,117,110,105,113,117,101]⟩:ByteArray)).size=7:=rfl
    refine (cT (.inl (ap x3 (if q4 then [(⟨#[117,110,105,113,117,101]⟩:ByteArray)] else []),())) (s7 _ x3 (⟨#[32,117,110,105,113,117,101]⟩:ByteArray) [(⟨#[117,110,105,113,117,101]⟩:ByteArray)] rfl (by omega))).trans ?_
    have a4:(ap x3 (if q4 then [(⟨#[117,110,105,113,117,101]⟩:ByteArray)] else [])).size≤x3.size+10:=by
      rw [jr]
      have:(eP (if q4 then [(⟨#[117,110,105,113,117,101]⟩:ByteArray)] else [])).length≤10:=by split<;>decide
      omega
    generalize hx4:ap x3 (if q4 then [(⟨#[117,110,105,113,117,101]⟩:ByteArray)] else [])=x4 at a4
    simp only [dY]
    have goal:ap x (iu nC (decide (0<j)) (q1,q2,q3,q4,q5,q6))=ap x4 (if q5=e0 then [] else [(⟨#[114,101,102]⟩:ByteArray),q5,fN q6 [(⟨#[114,101,115,116,114,105,99,116]⟩:ByteArray),(⟨#[99,97,115,99,97,100,101]⟩:ByteArray),(⟨#[115,101,116,110,117,108,108]⟩:ByteArray)]]):=by
      rw [←hx4,←hx3,←hx2,←hx1]
      simp only [CO]
      unfold iu nC
      simp only [List.append_assoc]
    rw [goal]
    by_cases h5:q5=e0
    · rw [decide_eq_true h5,if_pos h5,xJ];rfl
    · rw [decide_eq_false h5,if_neg h5]
      simp only [Bool.not_false,cond_true]
      have y5:((⟨#[32,114,101,102,32]⟩:ByteArray)).size=5:=rfl
      have u1:((⟨#[32,114,101,102,32]⟩:ByteArray)++q5).size=5+q5.size:=by rw [ByteArray.size_append];omega
      have u2:((⟨#[32,114,101,102,32]⟩:ByteArray)++q5++(⟨#[32]⟩:ByteArray)).size=6+q5.size:=by rw [ByteArray.size_append,u1];omega
      have u3:((⟨#[32,114,101,102,32]⟩:ByteArray)++q5++(⟨#[32]⟩:ByteArray)++fN q6 [(⟨#[114,101,115,116,114,105,99,116]⟩:ByteArray),(⟨#[99,97,115,99,97,100,101]⟩:ByteArray),(⟨#[115,101,116,110,117,108,108]⟩:ByteArray)]).size≤36+q5.size:=by rw [ByteArray.size_append,u2];omega
      rw [gk (by omega)]
      simp only [cond_true]
      rw [gk (by omega)]
      simp only [cond_true]
      rw [gk (by omega)]
      simp only [cond_true]
      rw [gk (by omega)]
      simp only [cond_true]
      have e3:x4++((⟨#[32,114,101,102,32]⟩:ByteArray)++q5++(⟨#[32]⟩:ByteArray)++fN q6 [(⟨#[114,101,115,116,114,105,99,116]⟩:ByteArray),(⟨#[99,97,115,99,97,100,101]⟩:ByteArray),(⟨#[115,101,116,110,117,108,108]⟩:ByteArray)])=ap x4 [(⟨#[114,101,102]⟩:ByteArray),q5,fN q6 [(⟨#[114,101,115,116,114,105,99,116]⟩:ByteArray),(⟨#[99,97,115,99,97,100,101]⟩:ByteArray),(⟨#[115,101,116,110,117,108,108]⟩:ByteArray)]]:=fQ (by simp [ap,eP])
      rw [e3]
  · intro x
    have d1:decide ((c.length:Int)<(c.length:Int))=false:=by simp
    simp only [d1,cond_false]
  · intro hsz
    have hc2:18909*c.length≤18909*400:=Nat.mul_le_mul_left _ hc
    generalize hx1:ap (ap (⟨#[116,97,98,108,101]⟩:ByteArray) [n,(⟨#[40]⟩:ByteArray)]) (oV (iu nC) false c)=x1 at hsz
    simp only []
    have y1:((⟨#[32,41]⟩:ByteArray)).size=2:=rfl
    rw [gk (by omega)]
    simp only [cond_true]
    have e2:x1++(⟨#[32,41]⟩:ByteArray)=ap x1 [(⟨#[41]⟩:ByteArray)]:=rfl
    rw [e2]
    have a2:(ap x1 [(⟨#[41]⟩:ByteArray)]).size≤8000000:=by rw [jr,nK];have:((⟨#[41]⟩:ByteArray)).size=1:=rfl;omega
    have key:=fun h1 h2=>(xL (α:=List ae) (R:=ByteArray×Unit) (body:=(fun (x3,x6,_)=>
  (bif (decide (x6<(k.length:Int))) then
  bif (decide (0≤x6)&&decide (x6<(k.length:Int))) then
  let e25:(List ae):=(List.getD k (Int.toNat x6) [])
  Option.bind (bS.F (e25,())) fun y26=>
  bif (!decide ((((⟨#[32,99,104,101,99,107]⟩:ByteArray).size+y26.1.size:Nat):Int)>IntKind.i64.max)) then
  let e27:ByteArray:=((⟨#[32,99,104,101,99,107]⟩:ByteArray)++y26.1)
  bif (!decide (((x3.size+e27.size:Nat):Int)>IntKind.i64.max)) then
  let e28:ByteArray:=(x3++e27)
  let e29:Int:=(IntKind.i64.wrap (x6+(1:Int)))
  some (.inl (e28,e29,()))
  else none
  else none
  else none
  else
  some (.inr (x3,()))))) k hk (fun _ e => qu e) 300010 8000000 (by decide) (fun b e hm => by
      have:=(p9 e (he e hm)).2
      unfold qu
      rw [iz]
      simp only [List.length_append,List.length_cons,List.length_nil]
      omega) (fun x=>(x,())) h1 h2 (ap x1 [(⟨#[41]⟩:ByteArray)]) a2).1
    refine (key ?_ ?_).trans ?_
    · intro j hj x hx
      have d1:decide ((j:Int)<(k.length:Int))=true:=by simp;omega
      have d0:decide (0≤(j:Int))=true:=by simp
      have hm:=List.getElem_mem hj
      obtain ⟨r1,r2⟩:=p9 _ (he _ hm)
      have hj2:300010*j≤300010*400:=Nat.mul_le_mul_left _ (by omega)
      have y6:((⟨#[32,99,104,101,99,107]⟩:ByteArray)).size=6:=rfl
      have y7:(bs (eP (gI k[j]))).size=(eP (gI k[j])).length:=cQ _
      simp only [d1,d0,Bool.and_self,cond_true,Int.toNat_natCast,bU hj,r1,Option.bind_some,cw hj (show k.length<9223372036854775808 by omega)]
      rw [gk (by omega)]
      simp only [cond_true]
      rw [gk (by rw [ByteArray.size_append];omega)]
      simp only [cond_true]
      have e3:x++((⟨#[32,99,104,101,99,107]⟩:ByteArray)++bs (eP (gI k[j])))=ap x (qu k[j]):=by
        have h:(⟨#[32,99,104,101,99,107]⟩:ByteArray)++bs (eP (gI k[j]))=bs (eP (qu k[j])):=fQ (by unfold qu;simp [iz])
        rw [h]
        rfl
      rw [e3]
    · intro x
      have d1:decide ((k.length:Int)<(k.length:Int))=false:=by simp
      simp only [d1,cond_false]
    · rw [Ab,←hx1]
      simp only [CO]
      unfold A2
      have:oV (iu nC) false c=jt nC false c:=xK nC c false
      rw [this]
end Go.Proofs.Ytleadolkcmagfaa
end
section
namespace Go.Proofs.Ytleadolkcmagfaa
open Go Lv Go.Proofs Go.RowKit Go.Shelf Dl
def DY (v:Dl.mI):List ByteArray:=[v.1,(⟨#[102,114,111,109]⟩:ByteArray),v.2.1]++(if v.2.2.1=e0 then [] else [(⟨#[106,111,105,110]⟩:ByteArray),v.2.2.1,(⟨#[111,110]⟩:ByteArray),bs (Lib.itoa v.2.2.2.1.1),(⟨#[61]⟩:ByteArray),bs (Lib.itoa v.2.2.2.1.2)])++
 (if v.2.2.2.2.1=[] then [] else (⟨#[119,104,101,114,101]⟩:ByteArray)::gI v.2.2.2.2.1)++ [(⟨#[112,105,99,107]⟩:ByteArray)]++jt kf false v.2.2.2.2.2.1++(if v.2.2.2.2.2.2.1 then [(⟨#[103,114,111,117,112]⟩:ByteArray)] else [])++jt oU false v.2.2.2.2.2.2.2
theorem mD {n:Int} (h:I64 n):(bs (Lib.itoa n)).size≤21:=by rw [cQ];exact gX h
theorem Ip {n:Int} (h:I64 n):WB (kf n):=.cons (by have:=mD h;omega) .nil
theorem JV {a:Dl.Agg} (h:I64 a.2):WB (oU a):=by
 have h1:(fN a.1 fns).size≤30:=gt (by decide)
 have h2:=mD h
 exact .cons (by omega) (.ite .nil (.cons (by omega) .nil))
theorem gt0L {α:Type} (l:List α):decide ((l.length:Int)>(0:Int))= !decide (l=[]):=by
 cases l with
 |nil=>rfl
 |cons a l=>
  have:decide ((((a::l).length:Nat):Int)>(0:Int))=true:=by rw [decide_eq_true_eq];simp only [List.length_cons];omega
  rw [this];rfl
theorem CP (vn vf vw : ByteArray) (o1 o2 : Int) (wh : List ae) (pk : List Int) (gr : Bool) (ag : List Dl.Agg) (n1 : vn.size ≤ 100) (n2 : vf.size ≤ 100) (n3 : vw.size ≤ 100)
    (h1:I64 o1) (h2:I64 o2) (hw:EF2 wh) (hp:pk.length≤400) (hpi:∀n∈pk,I64 n) (ha:ag.length≤400) (hai:∀a∈ag,I64 a.2):
    bZ.F (vn,vf,vw,o1,o2,wh,pk,gr,ag,())=some (ap (⟨#[118,105,101,119]⟩:ByteArray) (DY (vn,(vf,(vw,((o1,o2),(wh,(pk,(gr,ag)))))))),()):=by
  rw [bZ.eq]
  unfold bZ.B
  simp only []
  have z1:((⟨#[118,105,101,119,32]⟩:ByteArray)).size=5:=rfl
  have z2:((⟨#[32,102,114,111,109,32]⟩:ByteArray)).size=6:=rfl
  have u1:((⟨#[118,105,101,119,32]⟩:ByteArray)++vn).size=5+vn.size:=by rw [ByteArray.size_append];rfl
  have u2:((⟨#[118,105,101,119,32]⟩:ByteArray)++vn++(⟨#[32,102,114,111,109,32]⟩:ByteArray)).size=11+vn.size:=by rw [ByteArray.size_append,u1];omega
  rw [gk (by omega)]
  simp only [cond_true]
  rw [gk (by omega)]
  simp only [cond_true]
  rw [gk (by omega)]
  simp only [cond_true]
  have e1:(⟨#[118,105,101,119,32]⟩:ByteArray)++vn++(⟨#[32,102,114,111,109,32]⟩:ByteArray)++vf=ap (⟨#[118,105,101,119]⟩:ByteArray) [vn,(⟨#[102,114,111,109]⟩:ByteArray),vf]:=fQ (by simp [ap,eP])
  have s1:(ap (⟨#[118,105,101,119]⟩:ByteArray) [vn,(⟨#[102,114,111,109]⟩:ByteArray),vf]).size≤300:=by rw [←e1,ByteArray.size_append];omega
  rw [e1]
  generalize hx1:ap (⟨#[118,105,101,119]⟩:ByteArray) [vn,(⟨#[102,114,111,109]⟩:ByteArray),vf]=x1 at s1
  refine (cT (.inl (ap x1 (if vw=e0 then [] else [(⟨#[106,111,105,110]⟩:ByteArray),vw,(⟨#[111,110]⟩:ByteArray),bs (Lib.itoa o1),(⟨#[61]⟩:ByteArray),bs (Lib.itoa o2)]),())) ?_).trans ?_
  · simp only [dY,kg o1 h1,kg o2 h2,Option.bind_some]
    have b1:=mD h1
    have b2:=mD h2
    generalize bs (Lib.itoa o1)=t1 at b1
    generalize bs (Lib.itoa o2)=t2 at b2
    by_cases h5:vw=e0
    · rw [decide_eq_true h5,if_pos h5,xJ];rfl
    · rw [decide_eq_false h5,if_neg h5]
      simp only [Bool.not_false,cond_true]
      have y1:((⟨#[32,106,111,105,110,32]⟩:ByteArray)).size=6:=rfl
      have y2:((⟨#[32,111,110,32]⟩:ByteArray)).size=4:=rfl
      have y3:((⟨#[32,61,32]⟩:ByteArray)).size=3:=rfl
      have a1:((⟨#[32,106,111,105,110,32]⟩:ByteArray)++vw).size=6+vw.size:=by rw [ByteArray.size_append];rfl
      have a2:((⟨#[32,106,111,105,110,32]⟩:ByteArray)++vw++(⟨#[32,111,110,32]⟩:ByteArray)).size=10+vw.size:=by rw [ByteArray.size_append,a1];omega
      have a3:((⟨#[32,106,111,105,110,32]⟩:ByteArray)++vw++(⟨#[32,111,110,32]⟩:ByteArray)++t1).size=10+vw.size+t1.size:=by rw [ByteArray.size_append,a2]
      have a4:((⟨#[32,106,111,105,110,32]⟩:ByteArray)++vw++(⟨#[32,111,110,32]⟩:ByteArray)++t1++(⟨#[32,61,32]⟩:ByteArray)).size=13+vw.size+t1.size:=by rw [ByteArray.size_append,a3];omega
      have a5:((⟨#[32,106,111,105,110,32]⟩:ByteArray)++vw++(⟨#[32,111,110,32]⟩:ByteArray)++t1++(⟨#[32,61,32]⟩:ByteArray)++t2).size=13+vw.size+t1.size+t2.size:=by rw [ByteArray.size_append,a4]
      have dd:(decide (0≤(0:Int))&&decide ((0:Int)<(2:Int)))=true:=rfl
      have de:(decide (0≤(1:Int))&&decide ((1:Int)<(2:Int)))=true:=rfl
      rw [gk (by omega)]
      simp only [cond_true]
      rw [gk (by omega)]
      simp only [cond_true,dd]
      rw [gk (by omega)]
      simp only [cond_true]
      rw [gk (by omega)]
      simp only [cond_true,de]
      rw [gk (by omega)]
      simp only [cond_true]
      rw [gk (by omega)]
      simp only [cond_true]
      have e3:x1++((⟨#[32,106,111,105,110,32]⟩:ByteArray)++vw++(⟨#[32,111,110,32]⟩:ByteArray)++t1++(⟨#[32,61,32]⟩:ByteArray)++t2)=ap x1 [(⟨#[106,111,105,110]⟩:ByteArray),vw,(⟨#[111,110]⟩:ByteArray),t1,(⟨#[61]⟩:ByteArray),t2]:=fQ (by simp [ap,eP])
      rw [e3]
  have s2:(ap x1 (if vw=e0 then [] else [(⟨#[106,111,105,110]⟩:ByteArray),vw,(⟨#[111,110]⟩:ByteArray),bs (Lib.itoa o1),(⟨#[61]⟩:ByteArray),bs (Lib.itoa o2)])).size≤20000:=by
    rw [jr]
    have b1:=mD h1
    have b2:=mD h2
    have hwb:WB (if vw=e0 then [] else [(⟨#[106,111,105,110]⟩:ByteArray),vw,(⟨#[111,110]⟩:ByteArray),bs (Lib.itoa o1),(⟨#[61]⟩:ByteArray),bs (Lib.itoa o2)]):=.ite .nil (.cons (by decide) (.cons (by omega) (.cons (by decide) (.cons (by omega) (.cons (by decide) (.cons (by omega) .nil))))))
    have:=EW _ hwb
    have hl:(if vw=e0 then [] else [(⟨#[106,111,105,110]⟩:ByteArray),vw,(⟨#[111,110]⟩:ByteArray),bs (Lib.itoa o1),(⟨#[61]⟩:ByteArray),bs (Lib.itoa o2)]).length≤6:=by split<;>simp
    omega
  generalize hx2:ap x1 (if vw=e0 then [] else [(⟨#[106,111,105,110]⟩:ByteArray),vw,(⟨#[111,110]⟩:ByteArray),bs (Lib.itoa o1),(⟨#[61]⟩:ByteArray),bs (Lib.itoa o2)])=x2 at s2
  simp only []
  obtain ⟨q1,q2⟩:=p9 wh hw
  refine (cT (.inl (ap x2 (if wh=[] then [] else (⟨#[119,104,101,114,101]⟩:ByteArray)::gI wh),())) ?_).trans ?_
  · rw [gt0L]
    by_cases h6:wh=[]
    · rw [decide_eq_true h6,if_pos h6,xJ];rfl
    · rw [decide_eq_false h6,if_neg h6]
      simp only [Bool.not_false,cond_true,q1,Option.bind_some]
      have y6:((⟨#[32,119,104,101,114,101]⟩:ByteArray)).size=6:=rfl
      have y7:(bs (eP (gI wh))).size=(eP (gI wh)).length:=cQ _
      rw [gk (by omega)]
      simp only [cond_true]
      rw [gk (by rw [ByteArray.size_append];omega)]
      simp only [cond_true]
      have e3:x2++((⟨#[32,119,104,101,114,101]⟩:ByteArray)++bs (eP (gI wh)))=ap x2 ((⟨#[119,104,101,114,101]⟩:ByteArray)::gI wh):=by
        have h:(⟨#[32,119,104,101,114,101]⟩:ByteArray)++bs (eP (gI wh))=bs (eP ((⟨#[119,104,101,114,101]⟩:ByteArray)::gI wh)):=fQ (by simp [iz])
        rw [h]
        rfl
      rw [e3]
  have s3:(ap x2 (if wh=[] then [] else (⟨#[119,104,101,114,101]⟩:ByteArray)::gI wh)).size≤400000:=by
    rw [jr]
    by_cases h6:wh=[]
    · rw [if_pos h6,xI];simp only [List.length_nil];omega
    · rw [if_neg h6,iz]
      simp only [List.length_append,List.length_cons,List.length_nil];omega
  generalize hx3:ap x2 (if wh=[] then [] else (⟨#[119,104,101,114,101]⟩:ByteArray)::gI wh)=x3 at s3
  simp only []
  have y8:((⟨#[32,112,105,99,107]⟩:ByteArray)).size=5:=rfl
  rw [gk (by omega)]
  simp only [cond_true]
  have e4:x3++(⟨#[32,112,105,99,107]⟩:ByteArray)=ap x3 [(⟨#[112,105,99,107]⟩:ByteArray)]:=rfl
  rw [e4]
  have s4:(ap x3 [(⟨#[112,105,99,107]⟩:ByteArray)]).size≤400100:=by rw [jr,nK];have:((⟨#[112,105,99,107]⟩:ByteArray)).size=4:=rfl;omega
  refine rO (α:=Int) pk hp (iu kf) 18909 400100 (by decide) (fun b x hx=>rP (Ip (hpi x hx)) (by unfold kf;simp)) (fun x=> .inl (x,()))
    (ap x3 [(⟨#[112,105,99,107]⟩:ByteArray)]) s4 ?_ ?_ ?_
  · intro j hj x hx
    have d1:decide ((j:Int)<(pk.length:Int))=true:=by simp;omega
    have d0:decide (0≤(j:Int))=true:=by simp
    have hm:=List.getElem_mem hj
    have m1:=hpi _ hm
    have hj2:18909*j≤18909*400:=Nat.mul_le_mul_left _ (by omega)
    have b1:=mD m1
    have yz:((⟨#[32]⟩:ByteArray)).size=1:=rfl
    have yc:((⟨#[32,44]⟩:ByteArray)).size=2:=rfl
    simp only [d1,d0,Bool.and_self,cond_true,Int.toNat_natCast,bU hj,cw hj (show pk.length<9223372036854775808 by omega),gt0,kg _ m1,Option.bind_some]
    have hc:iu kf (decide (0<j)) pk[j]=(if decide (0<j) then [(⟨#[44]⟩:ByteArray)] else [])++ [bs (Lib.itoa pk[j])]:=rfl
    rw [hc]
    generalize bs (Lib.itoa pk[j])=t at b1
    cases decide (0<j) with
    |true=>
      simp only [cond_true,if_true]
      rw [gk (by omega)]
      simp only [cond_true]
      rw [gk (by omega)]
      simp only [cond_true]
      rw [gk (by rw [ByteArray.size_append,ByteArray.size_append];omega)]
      simp only [cond_true]
      have e3:x++(⟨#[32,44]⟩:ByteArray)++((⟨#[32]⟩:ByteArray)++t)=ap x ([(⟨#[44]⟩:ByteArray)]++ [t]):=fQ (by simp [ap,eP])
      rw [e3]
    |false=>
      simp only [cond_false,Bool.false_eq_true,if_false,List.nil_append]
      rw [gk (by omega)]
      simp only [cond_true]
      rw [gk (by rw [ByteArray.size_append];omega)]
      simp only [cond_true]
      have e3:x++((⟨#[32]⟩:ByteArray)++t)=ap x [t]:=fQ (by simp [ap,eP])
      rw [e3]
  · intro x
    have d1:decide ((pk.length:Int)<(pk.length:Int))=false:=by simp
    simp only [d1,cond_false]
  intro hsz
  have hc2:18909*pk.length≤18909*400:=Nat.mul_le_mul_left _ hp
  generalize hx4:ap (ap x3 [(⟨#[112,105,99,107]⟩:ByteArray)]) (oV (iu kf) false pk)=x4 at hsz
  simp only []
  have y9:((⟨#[32,103,114,111,117,112]⟩:ByteArray)).size=6:=rfl
  refine (cT (.inl (ap x4 (if gr then [(⟨#[103,114,111,117,112]⟩:ByteArray)] else []),())) (s7 _ x4 (⟨#[32,103,114,111,117,112]⟩:ByteArray) [(⟨#[103,114,111,117,112]⟩:ByteArray)] rfl (by omega))).trans ?_
  have a5:(ap x4 (if gr then [(⟨#[103,114,111,117,112]⟩:ByteArray)] else [])).size≤9000000:=by
    rw [jr]
    have:(eP (if gr then [(⟨#[103,114,111,117,112]⟩:ByteArray)] else [])).length≤10:=by split<;>decide
    omega
  generalize hx5:ap x4 (if gr then [(⟨#[103,114,111,117,112]⟩:ByteArray)] else [])=x5 at a5
  simp only []
  have key:=fun h1 h2=>(xL (α:=Dl.Agg) (R:=ByteArray×Unit) (body:=(fun (x3,x5,_)=>
  (bif (decide (x5<(ag.length:Int))) then
  Option.bind (
  (bif (decide (x5>(0:Int))) then
  bif (!decide (((x3.size+(⟨#[32,44]⟩:ByteArray).size:Nat):Int)>IntKind.i64.max)) then
  let e32:ByteArray:=(x3++(⟨#[32,44]⟩:ByteArray))
  some (.inl (e32,()))
  else none
  else
  some (.inl (x3,()))):Option ((ByteArray×Unit)⊕((ByteArray×Int×Unit)⊕(ByteArray×Unit)))) fun r33=>match r33 with
  | .inl (x3_33,_)=>
  (bif (decide (0≤x5)&&decide (x5<(ag.length:Int))) then
  let e34:ct:=(List.getD ag (Int.toNat x5) ei.z)
  Option.bind (dh.F (e34.1,[(⟨#[99,111,117,110,116]⟩:ByteArray),(⟨#[115,117,109]⟩:ByteArray),(⟨#[109,105,110]⟩:ByteArray),(⟨#[109,97,120]⟩:ByteArray)],())) fun y35=>
  bif (!decide ((((⟨#[32]⟩:ByteArray).size+y35.1.size:Nat):Int)>IntKind.i64.max)) then
  let e36:ByteArray:=((⟨#[32]⟩:ByteArray)++y35.1)
  bif (!decide (((x3_33.size+e36.size:Nat):Int)>IntKind.i64.max)) then
  let e37:ByteArray:=(x3_33++e36)
  bif (decide (0≤x5)&&decide (x5<(ag.length:Int))) then
  let e38:ct:=(List.getD ag (Int.toNat x5) ei.z)
  (bif (e38.1 !=(0:Int)) then
  bif (decide (0≤x5)&&decide (x5<(ag.length:Int))) then
  let e39:ct:=(List.getD ag (Int.toNat x5) ei.z)
  Option.bind (bC.F (e39.2,())) fun y40=>
  bif (!decide ((((⟨#[32]⟩:ByteArray).size+y40.1.size:Nat):Int)>IntKind.i64.max)) then
  let e41:ByteArray:=((⟨#[32]⟩:ByteArray)++y40.1)
  bif (!decide (((e37.size+e41.size:Nat):Int)>IntKind.i64.max)) then
  let e42:ByteArray:=(e37++e41)
  let e43:Int:=(IntKind.i64.wrap (x5+(1:Int)))
  some (.inl (e42,e43,()))
  else none
  else none
  else none
  else
  let e44:Int:=(IntKind.i64.wrap (x5+(1:Int)))
  some (.inl (e37,e44,())))
  else none
  else none
  else none
  else none)
  | .inr r=>some r
  else
  some (.inr (x3,()))))) ag ha (iu oU) 18909 9000000 (by decide) (fun b x hx=>rP (JV (hai x hx)) (xC x)) (fun x=>(x,())) h1 h2 x5 a5).1
  refine (Eq.trans ?_ (key ?_ ?_)).trans ?_
  · kernel_rfl
  · intro j hj x hx
    have d1:decide ((j:Int)<(ag.length:Int))=true:=by simp;omega
    have d0:decide (0≤(j:Int))=true:=by simp
    have hm:=List.getElem_mem hj
    have m1:=hai _ hm
    have hj2:18909*j≤18909*400:=Nat.mul_le_mul_left _ (by omega)
    simp only [d1,d0,Bool.and_self,cond_true,Int.toNat_natCast,bU hj,cw hj (show ag.length<9223372036854775808 by omega),gt0]
    generalize ag[j]=q at m1
    obtain ⟨f,cl⟩:=q
    simp only at m1 ⊢
    have b1:=mD m1
    have yz:((⟨#[32]⟩:ByteArray)).size=1:=rfl
    have yc:((⟨#[32,44]⟩:ByteArray)).size=2:=rfl
    refine (cT (.inl (ap x (if decide (0<j) then [(⟨#[44]⟩:ByteArray)] else []),())) (s7 _ x (⟨#[32,44]⟩:ByteArray) [(⟨#[44]⟩:ByteArray)] rfl (by omega))).trans ?_
    have g1:(ap x (if decide (0<j) then [(⟨#[44]⟩:ByteArray)] else [])).size≤x.size+10:=by
      rw [jr]
      have:(eP (if decide (0<j) then [(⟨#[44]⟩:ByteArray)] else [])).length≤10:=by split<;>decide
      omega
    have w1:(fN f [(⟨#[99,111,117,110,116]⟩:ByteArray),(⟨#[115,117,109]⟩:ByteArray),(⟨#[109,105,110]⟩:ByteArray),(⟨#[109,97,120]⟩:ByteArray)]).size≤30:=gt (by decide)
    have hc:iu oU (decide (0<j)) (f,cl)=(if decide (0<j) then [(⟨#[44]⟩:ByteArray)] else [])++(fN f [(⟨#[99,111,117,110,116]⟩:ByteArray),(⟨#[115,117,109]⟩:ByteArray),(⟨#[109,105,110]⟩:ByteArray),(⟨#[109,97,120]⟩:ByteArray)]::(if f=0 then [] else [bs (Lib.itoa cl)])):=rfl
    rw [hc,←CO]
    generalize ap x (if decide (0<j) then [(⟨#[44]⟩:ByteArray)] else [])=y at g1
    simp only [EV,Option.bind_some,kg _ m1,AV]
    generalize fN f [(⟨#[99,111,117,110,116]⟩:ByteArray),(⟨#[115,117,109]⟩:ByteArray),(⟨#[109,105,110]⟩:ByteArray),(⟨#[109,97,120]⟩:ByteArray)]=t1 at w1
    generalize bs (Lib.itoa cl)=t2 at b1
    rw [gk (by omega)]
    simp only [cond_true]
    rw [gk (by rw [ByteArray.size_append];omega)]
    simp only [cond_true]
    have v1:(y++((⟨#[32]⟩:ByteArray)++t1)).size≤y.size+31:=by rw [ByteArray.size_append,ByteArray.size_append];omega
    by_cases h0:f=0
    · simp only [h0,decide_true,Bool.not_true,cond_false,if_true]
      have e3:y++((⟨#[32]⟩:ByteArray)++t1)=ap y [t1]:=fQ (by simp [ap,eP])
      rw [e3]
    · simp only [h0,decide_false,Bool.not_false,cond_true,if_false]
      rw [gk (by omega)]
      simp only [cond_true]
      rw [gk (by   have : ((⟨#[32]⟩ : ByteArray) ++ t2).size = 1 + t2.size := ByteArray.size_append
                   omega)]
      simp only [cond_true]
      have e3:y++((⟨#[32]⟩:ByteArray)++t1)++((⟨#[32]⟩:ByteArray)++t2)=ap y [t1,t2]:=fQ (by simp [ap,eP])
      rw [e3]
  · intro x
    have d1:decide ((ag.length:Int)<(ag.length:Int))=false:=by simp
    simp only [d1,cond_false]
  · rw [←hx5,←hx4,←hx3,←hx2,←hx1]
    simp only [CO]
    unfold DY
    have t1:oV (iu kf) false pk=jt kf false pk:=xK kf pk false
    have t2:oV (iu oU) false ag=jt oU false ag:=xK oU ag false
    rw [t1,t2]
end Go.Proofs.Ytleadolkcmagfaa
end
section
namespace Go.Proofs.Ytleadolkcmagfaa
open Go Lv Go.Proofs Go.RowKit Go.Shelf Dl
def oq (d:Dl.Def):List UInt8:=if d.1=0 then (ap (⟨#[116,97,98,108,101]⟩:ByteArray) (A2 d.2.1)).data.toList else (ap (⟨#[118,105,101,119]⟩:ByteArray) (DY d.2.2)).data.toList
open Classical in
noncomputable def EX (d:Dl.Def):List UInt8:=if 20000<(oq d).length then [] else if ke (oq d)=(d,0) then oq d else []
theorem Iq {e:List ae} (h:xy e) (hb:s5 e=false):EF2 e:=by
 refine ⟨h,fun x hx=>?_⟩
 simp only [s5,Bool.or_eq_false_iff,List.any_eq_false,decide_eq_true_eq] at hb
 have:=hb.1 x hx
 omega
theorem Ir (k : Int) (tn : ByteArray) (c : List Col) (ck : List (List ae)) (vn vf vw : ByteArray) (o1 o2 : Int) (wh : List ae) (pk : List Int) (gr : Bool) (ag : List Agg)
    (h:Fit (k,((tn,(c,ck)),(vn,(vf,(vw,((o1,o2),(wh,(pk,(gr,ag)))))))))) (hs:Sm (k,((tn,(c,ck)),(vn,(vf,(vw,((o1,o2),(wh,(pk,(gr,ag)))))))))):
    cZ.F (k,tn,c,ck,vn,vf,vw,o1,o2,wh,pk,gr,ag,())=some (bs (EX (k,((tn,(c,ck)),(vn,(vf,(vw,((o1,o2),(wh,(pk,(gr,ag)))))))))),()):=by
  have hln:=h.ln
  rw [cZ.eq]
  unfold cZ.B
  simp only []
  rw [CP vn vf vw o1 o2 wh pk gr ag h.n2 h.n3 h.n4 h.o1 h.o2 (Iq h.whr hs.whr) h.pick h.pk h.aggs h.ag]
  simp only [Option.bind_some]
  generalize hd:((k,((tn,(c,ck)),(vn,(vf,(vw,((o1,o2),(wh,(pk,(gr,ag))))))))):Dl.Def)=d at hln h hs
  refine (cT (.inl (bs (oq d),())) ?_).trans ?_
  · subst hd
    unfold oq
    simp only [b_eq]
    by_cases h0:k=0
    · rw [decide_eq_true h0,if_pos h0]
      simp only [cond_true]
      rw [A3 tn c ck h.n1 h.cols h.checks hs.names (fun e he=>Iq (h.each e he) (hs.each e he))]
      simp only [Option.bind_some,oi]
    · rw [decide_eq_false h0,if_neg h0]
      simp only [cond_false,oi]
  simp only [cQ]
  unfold EX
  by_cases hb:20000<(oq d).length
  · have:decide (((oq d).length:Int)>(20000:Int))=true:=by simp;omega
    rw [this,if_pos hb]
    rfl
  · have:decide (((oq d).length:Int)>(20000:Int))=false:=by simp;omega
    rw [this,if_neg hb]
    simp only [cond_false,Ii,jJ,Option.bind_some]
    generalize hr:ke (oq d)=r
    obtain ⟨q,e⟩:=r
    obtain ⟨q1,⟨q2,q3,q4⟩,q5,q6,q7,⟨q8,q8'⟩,q9,q10,q11,q12⟩:=q
    simp only [EJ]
    by_cases he:e=0
    · subst he
      have:((0:Int) !=(0:Int))=false:=by decide
      simp only [this,cond_false]
      have hsm:=Jz k tn c ck vn vf vw o1 o2 wh pk gr ag q1 q2 q3 q4 q5 q6 q7 q8 q8' q9 q10 q11 q12 (hd▸hln)
      rw [hsm,hd]
      simp only [Option.bind_some]
      by_cases hq:d=(q1,((q2,(q3,q4)),(q5,(q6,(q7,((q8,q8'),(q9,(q10,(q11,q12)))))))))
      · rw [(nH _ _).2 hq,←hq,if_pos rfl]
        rfl
      · have:oQ d (q1,((q2,(q3,q4)),(q5,(q6,(q7,((q8,q8'),(q9,(q10,(q11,q12)))))))))=false:=by
          cases hs:oQ d (q1,((q2,(q3,q4)),(q5,(q6,(q7,((q8,q8'),(q9,(q10,(q11,q12))))))))) with
          |false=>rfl
          |true=>exact absurd ((nH _ _).1 hs) hq
        rw [this,if_neg (fun e=>hq (Prod.mk.inj e).1.symm)]
        rfl
    · have:(e !=(0:Int))=true:=by simp [he]
      simp only [this,cond_true]
      rw [if_neg (fun e'=>he (Prod.mk.inj e').2)]
end Go.Proofs.Ytleadolkcmagfaa
end
